/-
  No cell of these rows narrows 'for every input' (looked for: loops, veiled, ifaces, maps, wideKeys, modest, calm, conditions, laid).
  DERIVED. THE GIVEN ROWS OF THIS SEAT. 15 by the template 'for every input the law returns true; each argument reads behind the call as it read before'; 0 by the template 'total and deterministic' (their statements: YtlciacpffoekjaaTotals.lean).
  GIVEN WITH THE SEED: the statements are not yours to turn. If you find one false, say at which input.
  Laid BY PROGRAM, IN A SANDBOX (cutbox-rows.mjs): the forced cells as the released guide's own fill.sh prints them over the translation 549d48cdc2a7ae04… (all of the seat's roots in one cut). By AI agents, Wed Nov 11 2026. No macro, syntax, notation, axiom, sorry.
-/
import Derived.Test.YtlciacpffoekjaaChecked
import GoSem.Claim
import GoSem.ClaimJoined
import GoSem.ClaimMapViews
import Derived.JoinedTies
import Derived.KernelRfl
namespace Go.Proofs.Ytlciacpffoekjaa
/- THE CELL 'sum', in the pinned program and in every row, IS THE sha256 OF THE DUMP (.gsa) THAT YtlciacpffoekjaaProg.lean LOADS. Nothing in Lean hashes anything: it is a label: what it is worth is what the hold of that sum in a sandbox is worth. -/
noncomputable def Try.pinned : Pinned := { name := "ytlciacpffoekjaa", sum := "549d48cdc2a7ae0470f92e55ac1e0b42531d32757cf858b1ff49f580a9947813", checked := Try.checked }
namespace Rows
def none {H : Type} : Left H := { results := [], args := [] }

/-- 'parquetrylaw02.RankTurns': WHATEVER THE INPUT: true; the input reads as it did. -/
def rankTurnsSpec : ChangeSpec := { name := "rankTurns", fn := fun _ => fun
  | [d1, d2, d3, d4] => { results := [.lit (.bool true)], args := [d1, d2, d3, d4] }
  | _ => none }
def rankTurnsRow : OpenClaim := { program := "ytlciacpffoekjaa", sum := "549d48cdc2a7ae0470f92e55ac1e0b42531d32757cf858b1ff49f580a9947813", func := "parquetry/parquetrylaw02.RankTurns", spec := "rankTurns", inPlace := ["sync/atomic.AddInt64", "sync/atomic.LoadUint32", "(*internal/sync.Mutex).Lock", "internal/race.Disable", "sync/atomic.CompareAndSwapInt32", "internal/race.Enable", "internal/race.Acquire", "(*internal/sync.Mutex).lockSlow", "internal/sync.runtime_canSpin", "internal/sync.runtime_doSpin", "internal/sync.throw", "internal/sync.runtime_nanotime", "internal/sync.runtime_SemacquireMutex", "sync/atomic.AddInt32", "(*internal/sync.Mutex).Unlock", "internal/race.ReleaseMerge", "(*internal/sync.Mutex).unlockSlow", "internal/sync.fatal", "internal/sync.runtime_Semrelease", "sync/atomic.StoreUint32"], unfollowed := true, recurses := true, apart := false }
def RankTurnsSaid : Prop := rankTurnsRow.holds Try.pinned (OpenSpec.ofChange rankTurnsSpec)

/-- ITS FALSE NEIGHBOUR: 'it returns false'. Refute it at one input. -/
def rankTurnsWrong : ChangeSpec := { name := "rankTurns", fn := fun _ => fun
  | [d1, d2, d3, d4] => { results := [.lit (.bool false)], args := [d1, d2, d3, d4] }
  | _ => none }
def RankTurnsWrongFalsely : Prop := rankTurnsRow.holds Try.pinned (OpenSpec.ofChange rankTurnsWrong)

/-- 'parquetrylaw02.RankRaw': WHATEVER THE INPUT: true; the input reads as it did. -/
def rankRawSpec : ChangeSpec := { name := "rankRaw", fn := fun _ => fun
  | [d1, d2, d3, d4] => { results := [.lit (.bool true)], args := [d1, d2, d3, d4] }
  | _ => none }
def rankRawRow : OpenClaim := { program := "ytlciacpffoekjaa", sum := "549d48cdc2a7ae0470f92e55ac1e0b42531d32757cf858b1ff49f580a9947813", func := "parquetry/parquetrylaw02.RankRaw", spec := "rankRaw", inPlace := ["sync/atomic.AddInt64", "sync/atomic.LoadUint32", "(*internal/sync.Mutex).Lock", "internal/race.Disable", "sync/atomic.CompareAndSwapInt32", "internal/race.Enable", "internal/race.Acquire", "(*internal/sync.Mutex).lockSlow", "internal/sync.runtime_canSpin", "internal/sync.runtime_doSpin", "internal/sync.throw", "internal/sync.runtime_nanotime", "internal/sync.runtime_SemacquireMutex", "sync/atomic.AddInt32", "(*internal/sync.Mutex).Unlock", "internal/race.ReleaseMerge", "(*internal/sync.Mutex).unlockSlow", "internal/sync.fatal", "internal/sync.runtime_Semrelease", "sync/atomic.StoreUint32", "sync/atomic.LoadInt64"], unfollowed := true, recurses := true, apart := false }
def RankRawSaid : Prop := rankRawRow.holds Try.pinned (OpenSpec.ofChange rankRawSpec)

/-- ITS FALSE NEIGHBOUR: 'it returns false'. Refute it at one input. -/
def rankRawWrong : ChangeSpec := { name := "rankRaw", fn := fun _ => fun
  | [d1, d2, d3, d4] => { results := [.lit (.bool false)], args := [d1, d2, d3, d4] }
  | _ => none }
def RankRawWrongFalsely : Prop := rankRawRow.holds Try.pinned (OpenSpec.ofChange rankRawWrong)

/-- 'parquetrylaw02.RankAll': WHATEVER THE INPUT: true; the input reads as it did. -/
def rankAllSpec : ChangeSpec := { name := "rankAll", fn := fun _ => fun
  | [d1, d2, d3, d4] => { results := [.lit (.bool true)], args := [d1, d2, d3, d4] }
  | _ => none }
def rankAllRow : OpenClaim := { program := "ytlciacpffoekjaa", sum := "549d48cdc2a7ae0470f92e55ac1e0b42531d32757cf858b1ff49f580a9947813", func := "parquetry/parquetrylaw02.RankAll", spec := "rankAll", inPlace := ["sync/atomic.AddInt64", "sync/atomic.LoadUint32", "(*internal/sync.Mutex).Lock", "internal/race.Disable", "sync/atomic.CompareAndSwapInt32", "internal/race.Enable", "internal/race.Acquire", "(*internal/sync.Mutex).lockSlow", "internal/sync.runtime_canSpin", "internal/sync.runtime_doSpin", "internal/sync.throw", "internal/sync.runtime_nanotime", "internal/sync.runtime_SemacquireMutex", "sync/atomic.AddInt32", "(*internal/sync.Mutex).Unlock", "internal/race.ReleaseMerge", "(*internal/sync.Mutex).unlockSlow", "internal/sync.fatal", "internal/sync.runtime_Semrelease", "sync/atomic.StoreUint32", "sync/atomic.LoadInt64"], unfollowed := true, recurses := true, apart := false }
def RankAllSaid : Prop := rankAllRow.holds Try.pinned (OpenSpec.ofChange rankAllSpec)

/-- ITS FALSE NEIGHBOUR: 'it returns false'. Refute it at one input. -/
def rankAllWrong : ChangeSpec := { name := "rankAll", fn := fun _ => fun
  | [d1, d2, d3, d4] => { results := [.lit (.bool false)], args := [d1, d2, d3, d4] }
  | _ => none }
def RankAllWrongFalsely : Prop := rankAllRow.holds Try.pinned (OpenSpec.ofChange rankAllWrong)

/-- 'parquetrylaw02.RankOnce': WHATEVER THE INPUT: true; the input reads as it did. -/
def rankOnceSpec : ChangeSpec := { name := "rankOnce", fn := fun _ => fun
  | [d1, d2, d3, d4] => { results := [.lit (.bool true)], args := [d1, d2, d3, d4] }
  | _ => none }
def rankOnceRow : OpenClaim := { program := "ytlciacpffoekjaa", sum := "549d48cdc2a7ae0470f92e55ac1e0b42531d32757cf858b1ff49f580a9947813", func := "parquetry/parquetrylaw02.RankOnce", spec := "rankOnce", inPlace := ["sync/atomic.AddInt64", "sync/atomic.LoadUint32", "(*internal/sync.Mutex).Lock", "internal/race.Disable", "sync/atomic.CompareAndSwapInt32", "internal/race.Enable", "internal/race.Acquire", "(*internal/sync.Mutex).lockSlow", "internal/sync.runtime_canSpin", "internal/sync.runtime_doSpin", "internal/sync.throw", "internal/sync.runtime_nanotime", "internal/sync.runtime_SemacquireMutex", "sync/atomic.AddInt32", "(*internal/sync.Mutex).Unlock", "internal/race.ReleaseMerge", "(*internal/sync.Mutex).unlockSlow", "internal/sync.fatal", "internal/sync.runtime_Semrelease", "sync/atomic.StoreUint32", "sync/atomic.LoadInt64"], unfollowed := true, recurses := true, apart := false }
def RankOnceSaid : Prop := rankOnceRow.holds Try.pinned (OpenSpec.ofChange rankOnceSpec)

/-- ITS FALSE NEIGHBOUR: 'it returns false'. Refute it at one input. -/
def rankOnceWrong : ChangeSpec := { name := "rankOnce", fn := fun _ => fun
  | [d1, d2, d3, d4] => { results := [.lit (.bool false)], args := [d1, d2, d3, d4] }
  | _ => none }
def RankOnceWrongFalsely : Prop := rankOnceRow.holds Try.pinned (OpenSpec.ofChange rankOnceWrong)

/-- 'parquetrylaw02.RankNil': WHATEVER THE INPUT: true; the input reads as it did. -/
def rankNilSpec : ChangeSpec := { name := "rankNil", fn := fun _ => fun
  | [d1, d2] => { results := [.lit (.bool true)], args := [d1, d2] }
  | _ => none }
def rankNilRow : OpenClaim := { program := "ytlciacpffoekjaa", sum := "549d48cdc2a7ae0470f92e55ac1e0b42531d32757cf858b1ff49f580a9947813", func := "parquetry/parquetrylaw02.RankNil", spec := "rankNil", inPlace := ["sync/atomic.AddInt64", "sync/atomic.LoadUint32", "(*internal/sync.Mutex).Lock", "internal/race.Disable", "sync/atomic.CompareAndSwapInt32", "internal/race.Enable", "internal/race.Acquire", "(*internal/sync.Mutex).lockSlow", "internal/sync.runtime_canSpin", "internal/sync.runtime_doSpin", "internal/sync.throw", "internal/sync.runtime_nanotime", "internal/sync.runtime_SemacquireMutex", "sync/atomic.AddInt32", "(*internal/sync.Mutex).Unlock", "internal/race.ReleaseMerge", "(*internal/sync.Mutex).unlockSlow", "internal/sync.fatal", "internal/sync.runtime_Semrelease", "sync/atomic.StoreUint32", "sync/atomic.LoadInt64"], unfollowed := true, recurses := true, apart := false }
def RankNilSaid : Prop := rankNilRow.holds Try.pinned (OpenSpec.ofChange rankNilSpec)

/-- ITS FALSE NEIGHBOUR: 'it returns false'. Refute it at one input. -/
def rankNilWrong : ChangeSpec := { name := "rankNil", fn := fun _ => fun
  | [d1, d2] => { results := [.lit (.bool false)], args := [d1, d2] }
  | _ => none }
def RankNilWrongFalsely : Prop := rankNilRow.holds Try.pinned (OpenSpec.ofChange rankNilWrong)

/-- 'parquetrylaw03.ParenIs': WHATEVER THE INPUT: true; the input reads as it did. -/
def parenIsSpec : ChangeSpec := { name := "parenIs", fn := fun _ => fun
  | [d1, d2] => { results := [.lit (.bool true)], args := [d1, d2] }
  | _ => none }
def parenIsRow : OpenClaim := { program := "ytlciacpffoekjaa", sum := "549d48cdc2a7ae0470f92e55ac1e0b42531d32757cf858b1ff49f580a9947813", func := "parquetry/parquetrylaw03.ParenIs", spec := "parenIs", inPlace := ["sync/atomic.AddInt64", "sync/atomic.LoadUint32", "(*internal/sync.Mutex).Lock", "internal/race.Disable", "sync/atomic.CompareAndSwapInt32", "internal/race.Enable", "internal/race.Acquire", "(*internal/sync.Mutex).lockSlow", "internal/sync.runtime_canSpin", "internal/sync.runtime_doSpin", "internal/sync.throw", "internal/sync.runtime_nanotime", "internal/sync.runtime_SemacquireMutex", "sync/atomic.AddInt32", "(*internal/sync.Mutex).Unlock", "internal/race.ReleaseMerge", "(*internal/sync.Mutex).unlockSlow", "internal/sync.fatal", "internal/sync.runtime_Semrelease", "sync/atomic.StoreUint32"], unfollowed := true, recurses := true, apart := false }
def ParenIsSaid : Prop := parenIsRow.holds Try.pinned (OpenSpec.ofChange parenIsSpec)

/-- ITS FALSE NEIGHBOUR: 'it returns false'. Refute it at one input. -/
def parenIsWrong : ChangeSpec := { name := "parenIs", fn := fun _ => fun
  | [d1, d2] => { results := [.lit (.bool false)], args := [d1, d2] }
  | _ => none }
def ParenIsWrongFalsely : Prop := parenIsRow.holds Try.pinned (OpenSpec.ofChange parenIsWrong)

/-- 'parquetrylaw03.ParenPairs': WHATEVER THE INPUT: true; the input reads as it did. -/
def parenPairsSpec : ChangeSpec := { name := "parenPairs", fn := fun _ => fun
  | [d1, d2, d3] => { results := [.lit (.bool true)], args := [d1, d2, d3] }
  | _ => none }
def parenPairsRow : OpenClaim := { program := "ytlciacpffoekjaa", sum := "549d48cdc2a7ae0470f92e55ac1e0b42531d32757cf858b1ff49f580a9947813", func := "parquetry/parquetrylaw03.ParenPairs", spec := "parenPairs", inPlace := ["sync/atomic.AddInt64", "sync/atomic.LoadUint32", "(*internal/sync.Mutex).Lock", "internal/race.Disable", "sync/atomic.CompareAndSwapInt32", "internal/race.Enable", "internal/race.Acquire", "(*internal/sync.Mutex).lockSlow", "internal/sync.runtime_canSpin", "internal/sync.runtime_doSpin", "internal/sync.throw", "internal/sync.runtime_nanotime", "internal/sync.runtime_SemacquireMutex", "sync/atomic.AddInt32", "(*internal/sync.Mutex).Unlock", "internal/race.ReleaseMerge", "(*internal/sync.Mutex).unlockSlow", "internal/sync.fatal", "internal/sync.runtime_Semrelease", "sync/atomic.StoreUint32"], unfollowed := true, recurses := true, apart := false }
def ParenPairsSaid : Prop := parenPairsRow.holds Try.pinned (OpenSpec.ofChange parenPairsSpec)

/-- ITS FALSE NEIGHBOUR: 'it returns false'. Refute it at one input. -/
def parenPairsWrong : ChangeSpec := { name := "parenPairs", fn := fun _ => fun
  | [d1, d2, d3] => { results := [.lit (.bool false)], args := [d1, d2, d3] }
  | _ => none }
def ParenPairsWrongFalsely : Prop := parenPairsRow.holds Try.pinned (OpenSpec.ofChange parenPairsWrong)

/-- 'parquetrylaw03.ParenJoins': WHATEVER THE INPUT: true; the input reads as it did. -/
def parenJoinsSpec : ChangeSpec := { name := "parenJoins", fn := fun _ => fun
  | [d1, d2, d3, d4, d5] => { results := [.lit (.bool true)], args := [d1, d2, d3, d4, d5] }
  | _ => none }
def parenJoinsRow : OpenClaim := { program := "ytlciacpffoekjaa", sum := "549d48cdc2a7ae0470f92e55ac1e0b42531d32757cf858b1ff49f580a9947813", func := "parquetry/parquetrylaw03.ParenJoins", spec := "parenJoins", inPlace := ["sync/atomic.AddInt64", "sync/atomic.LoadUint32", "(*internal/sync.Mutex).Lock", "internal/race.Disable", "sync/atomic.CompareAndSwapInt32", "internal/race.Enable", "internal/race.Acquire", "(*internal/sync.Mutex).lockSlow", "internal/sync.runtime_canSpin", "internal/sync.runtime_doSpin", "internal/sync.throw", "internal/sync.runtime_nanotime", "internal/sync.runtime_SemacquireMutex", "sync/atomic.AddInt32", "(*internal/sync.Mutex).Unlock", "internal/race.ReleaseMerge", "(*internal/sync.Mutex).unlockSlow", "internal/sync.fatal", "internal/sync.runtime_Semrelease", "sync/atomic.StoreUint32"], unfollowed := true, recurses := true, apart := false }
def ParenJoinsSaid : Prop := parenJoinsRow.holds Try.pinned (OpenSpec.ofChange parenJoinsSpec)

/-- ITS FALSE NEIGHBOUR: 'it returns false'. Refute it at one input. -/
def parenJoinsWrong : ChangeSpec := { name := "parenJoins", fn := fun _ => fun
  | [d1, d2, d3, d4, d5] => { results := [.lit (.bool false)], args := [d1, d2, d3, d4, d5] }
  | _ => none }
def ParenJoinsWrongFalsely : Prop := parenJoinsRow.holds Try.pinned (OpenSpec.ofChange parenJoinsWrong)

/-- 'parquetrylaw03.ParenLows': WHATEVER THE INPUT: true; the input reads as it did. -/
def parenLowsSpec : ChangeSpec := { name := "parenLows", fn := fun _ => fun
  | [d1, d2, d3, d4] => { results := [.lit (.bool true)], args := [d1, d2, d3, d4] }
  | _ => none }
def parenLowsRow : OpenClaim := { program := "ytlciacpffoekjaa", sum := "549d48cdc2a7ae0470f92e55ac1e0b42531d32757cf858b1ff49f580a9947813", func := "parquetry/parquetrylaw03.ParenLows", spec := "parenLows", inPlace := ["sync/atomic.AddInt64", "sync/atomic.LoadUint32", "(*internal/sync.Mutex).Lock", "internal/race.Disable", "sync/atomic.CompareAndSwapInt32", "internal/race.Enable", "internal/race.Acquire", "(*internal/sync.Mutex).lockSlow", "internal/sync.runtime_canSpin", "internal/sync.runtime_doSpin", "internal/sync.throw", "internal/sync.runtime_nanotime", "internal/sync.runtime_SemacquireMutex", "sync/atomic.AddInt32", "(*internal/sync.Mutex).Unlock", "internal/race.ReleaseMerge", "(*internal/sync.Mutex).unlockSlow", "internal/sync.fatal", "internal/sync.runtime_Semrelease", "sync/atomic.StoreUint32"], unfollowed := true, recurses := true, apart := false }
def ParenLowsSaid : Prop := parenLowsRow.holds Try.pinned (OpenSpec.ofChange parenLowsSpec)

/-- ITS FALSE NEIGHBOUR: 'it returns false'. Refute it at one input. -/
def parenLowsWrong : ChangeSpec := { name := "parenLows", fn := fun _ => fun
  | [d1, d2, d3, d4] => { results := [.lit (.bool false)], args := [d1, d2, d3, d4] }
  | _ => none }
def ParenLowsWrongFalsely : Prop := parenLowsRow.holds Try.pinned (OpenSpec.ofChange parenLowsWrong)

/-- 'parquetrylaw03.ParenOnce': WHATEVER THE INPUT: true; the input reads as it did. -/
def parenOnceSpec : ChangeSpec := { name := "parenOnce", fn := fun _ => fun
  | [d1, d2, d3] => { results := [.lit (.bool true)], args := [d1, d2, d3] }
  | _ => none }
def parenOnceRow : OpenClaim := { program := "ytlciacpffoekjaa", sum := "549d48cdc2a7ae0470f92e55ac1e0b42531d32757cf858b1ff49f580a9947813", func := "parquetry/parquetrylaw03.ParenOnce", spec := "parenOnce", inPlace := ["sync/atomic.AddInt64", "sync/atomic.LoadUint32", "(*internal/sync.Mutex).Lock", "internal/race.Disable", "sync/atomic.CompareAndSwapInt32", "internal/race.Enable", "internal/race.Acquire", "(*internal/sync.Mutex).lockSlow", "internal/sync.runtime_canSpin", "internal/sync.runtime_doSpin", "internal/sync.throw", "internal/sync.runtime_nanotime", "internal/sync.runtime_SemacquireMutex", "sync/atomic.AddInt32", "(*internal/sync.Mutex).Unlock", "internal/race.ReleaseMerge", "(*internal/sync.Mutex).unlockSlow", "internal/sync.fatal", "internal/sync.runtime_Semrelease", "sync/atomic.StoreUint32", "sync/atomic.LoadInt64"], unfollowed := true, recurses := true, apart := false }
def ParenOnceSaid : Prop := parenOnceRow.holds Try.pinned (OpenSpec.ofChange parenOnceSpec)

/-- ITS FALSE NEIGHBOUR: 'it returns false'. Refute it at one input. -/
def parenOnceWrong : ChangeSpec := { name := "parenOnce", fn := fun _ => fun
  | [d1, d2, d3] => { results := [.lit (.bool false)], args := [d1, d2, d3] }
  | _ => none }
def ParenOnceWrongFalsely : Prop := parenOnceRow.holds Try.pinned (OpenSpec.ofChange parenOnceWrong)

/-- 'parquetrylaw04.MixedSorts': WHATEVER THE INPUT: true; the input reads as it did. -/
def mixedSortsSpec : ChangeSpec := { name := "mixedSorts", fn := fun _ => fun
  | [d1, d2, d3] => { results := [.lit (.bool true)], args := [d1, d2, d3] }
  | _ => none }
def mixedSortsRow : OpenClaim := { program := "ytlciacpffoekjaa", sum := "549d48cdc2a7ae0470f92e55ac1e0b42531d32757cf858b1ff49f580a9947813", func := "parquetry/parquetrylaw04.MixedSorts", spec := "mixedSorts", inPlace := ["internal/bytealg.IndexByteString", "sync/atomic.AddInt64", "sync/atomic.LoadUint32", "(*internal/sync.Mutex).Lock", "internal/race.Disable", "sync/atomic.CompareAndSwapInt32", "internal/race.Enable", "internal/race.Acquire", "(*internal/sync.Mutex).lockSlow", "internal/sync.runtime_canSpin", "internal/sync.runtime_doSpin", "internal/sync.throw", "internal/sync.runtime_nanotime", "internal/sync.runtime_SemacquireMutex", "sync/atomic.AddInt32", "(*internal/sync.Mutex).Unlock", "internal/race.ReleaseMerge", "(*internal/sync.Mutex).unlockSlow", "internal/sync.fatal", "internal/sync.runtime_Semrelease", "sync/atomic.StoreUint32"], unfollowed := true, recurses := true, apart := false }
def MixedSortsSaid : Prop := mixedSortsRow.holds Try.pinned (OpenSpec.ofChange mixedSortsSpec)

/-- ITS FALSE NEIGHBOUR: 'it returns false'. Refute it at one input. -/
def mixedSortsWrong : ChangeSpec := { name := "mixedSorts", fn := fun _ => fun
  | [d1, d2, d3] => { results := [.lit (.bool false)], args := [d1, d2, d3] }
  | _ => none }
def MixedSortsWrongFalsely : Prop := mixedSortsRow.holds Try.pinned (OpenSpec.ofChange mixedSortsWrong)

/-- 'parquetrylaw04.MixedPairs': WHATEVER THE INPUT: true; the input reads as it did. -/
def mixedPairsSpec : ChangeSpec := { name := "mixedPairs", fn := fun _ => fun
  | [d1, d2, d3] => { results := [.lit (.bool true)], args := [d1, d2, d3] }
  | _ => none }
def mixedPairsRow : OpenClaim := { program := "ytlciacpffoekjaa", sum := "549d48cdc2a7ae0470f92e55ac1e0b42531d32757cf858b1ff49f580a9947813", func := "parquetry/parquetrylaw04.MixedPairs", spec := "mixedPairs", inPlace := ["internal/bytealg.IndexByteString", "sync/atomic.AddInt64", "sync/atomic.LoadUint32", "(*internal/sync.Mutex).Lock", "internal/race.Disable", "sync/atomic.CompareAndSwapInt32", "internal/race.Enable", "internal/race.Acquire", "(*internal/sync.Mutex).lockSlow", "internal/sync.runtime_canSpin", "internal/sync.runtime_doSpin", "internal/sync.throw", "internal/sync.runtime_nanotime", "internal/sync.runtime_SemacquireMutex", "sync/atomic.AddInt32", "(*internal/sync.Mutex).Unlock", "internal/race.ReleaseMerge", "(*internal/sync.Mutex).unlockSlow", "internal/sync.fatal", "internal/sync.runtime_Semrelease", "sync/atomic.StoreUint32"], unfollowed := true, recurses := true, apart := false }
def MixedPairsSaid : Prop := mixedPairsRow.holds Try.pinned (OpenSpec.ofChange mixedPairsSpec)

/-- ITS FALSE NEIGHBOUR: 'it returns false'. Refute it at one input. -/
def mixedPairsWrong : ChangeSpec := { name := "mixedPairs", fn := fun _ => fun
  | [d1, d2, d3] => { results := [.lit (.bool false)], args := [d1, d2, d3] }
  | _ => none }
def MixedPairsWrongFalsely : Prop := mixedPairsRow.holds Try.pinned (OpenSpec.ofChange mixedPairsWrong)

/-- 'parquetrylaw04.MixedReads': WHATEVER THE INPUT: true; the input reads as it did. -/
def mixedReadsSpec : ChangeSpec := { name := "mixedReads", fn := fun _ => fun
  | [d] => { results := [.lit (.bool true)], args := [d] }
  | _ => none }
def mixedReadsRow : OpenClaim := { program := "ytlciacpffoekjaa", sum := "549d48cdc2a7ae0470f92e55ac1e0b42531d32757cf858b1ff49f580a9947813", func := "parquetry/parquetrylaw04.MixedReads", spec := "mixedReads", inPlace := ["internal/bytealg.IndexByteString", "sync/atomic.AddInt64", "sync/atomic.LoadUint32", "(*internal/sync.Mutex).Lock", "internal/race.Disable", "sync/atomic.CompareAndSwapInt32", "internal/race.Enable", "internal/race.Acquire", "(*internal/sync.Mutex).lockSlow", "internal/sync.runtime_canSpin", "internal/sync.runtime_doSpin", "internal/sync.throw", "internal/sync.runtime_nanotime", "internal/sync.runtime_SemacquireMutex", "sync/atomic.AddInt32", "(*internal/sync.Mutex).Unlock", "internal/race.ReleaseMerge", "(*internal/sync.Mutex).unlockSlow", "internal/sync.fatal", "internal/sync.runtime_Semrelease", "sync/atomic.StoreUint32", "internal/abi.NoEscape"], unfollowed := true, recurses := true, apart := false }
def MixedReadsSaid : Prop := mixedReadsRow.holds Try.pinned (OpenSpec.ofChange mixedReadsSpec)

/-- ITS FALSE NEIGHBOUR: 'it returns false'. Refute it at one input. -/
def mixedReadsWrong : ChangeSpec := { name := "mixedReads", fn := fun _ => fun
  | [d] => { results := [.lit (.bool false)], args := [d] }
  | _ => none }
def MixedReadsWrongFalsely : Prop := mixedReadsRow.holds Try.pinned (OpenSpec.ofChange mixedReadsWrong)

/-- 'parquetrylaw04.MixedCounts': WHATEVER THE INPUT: true; the input reads as it did. -/
def mixedCountsSpec : ChangeSpec := { name := "mixedCounts", fn := fun _ => fun
  | [d1, d2, d3, d4] => { results := [.lit (.bool true)], args := [d1, d2, d3, d4] }
  | _ => none }
def mixedCountsRow : OpenClaim := { program := "ytlciacpffoekjaa", sum := "549d48cdc2a7ae0470f92e55ac1e0b42531d32757cf858b1ff49f580a9947813", func := "parquetry/parquetrylaw04.MixedCounts", spec := "mixedCounts", inPlace := ["internal/bytealg.IndexByteString", "sync/atomic.AddInt64", "sync/atomic.LoadUint32", "(*internal/sync.Mutex).Lock", "internal/race.Disable", "sync/atomic.CompareAndSwapInt32", "internal/race.Enable", "internal/race.Acquire", "(*internal/sync.Mutex).lockSlow", "internal/sync.runtime_canSpin", "internal/sync.runtime_doSpin", "internal/sync.throw", "internal/sync.runtime_nanotime", "internal/sync.runtime_SemacquireMutex", "sync/atomic.AddInt32", "(*internal/sync.Mutex).Unlock", "internal/race.ReleaseMerge", "(*internal/sync.Mutex).unlockSlow", "internal/sync.fatal", "internal/sync.runtime_Semrelease", "sync/atomic.StoreUint32"], unfollowed := true, recurses := true, apart := false }
def MixedCountsSaid : Prop := mixedCountsRow.holds Try.pinned (OpenSpec.ofChange mixedCountsSpec)

/-- ITS FALSE NEIGHBOUR: 'it returns false'. Refute it at one input. -/
def mixedCountsWrong : ChangeSpec := { name := "mixedCounts", fn := fun _ => fun
  | [d1, d2, d3, d4] => { results := [.lit (.bool false)], args := [d1, d2, d3, d4] }
  | _ => none }
def MixedCountsWrongFalsely : Prop := mixedCountsRow.holds Try.pinned (OpenSpec.ofChange mixedCountsWrong)

/-- 'parquetrylaw04.MixedAdds': WHATEVER THE INPUT: true; the input reads as it did. -/
def mixedAddsSpec : ChangeSpec := { name := "mixedAdds", fn := fun _ => fun
  | [d1, d2] => { results := [.lit (.bool true)], args := [d1, d2] }
  | _ => none }
def mixedAddsRow : OpenClaim := { program := "ytlciacpffoekjaa", sum := "549d48cdc2a7ae0470f92e55ac1e0b42531d32757cf858b1ff49f580a9947813", func := "parquetry/parquetrylaw04.MixedAdds", spec := "mixedAdds", inPlace := ["internal/bytealg.IndexByteString", "sync/atomic.AddInt64", "sync/atomic.LoadUint32", "(*internal/sync.Mutex).Lock", "internal/race.Disable", "sync/atomic.CompareAndSwapInt32", "internal/race.Enable", "internal/race.Acquire", "(*internal/sync.Mutex).lockSlow", "internal/sync.runtime_canSpin", "internal/sync.runtime_doSpin", "internal/sync.throw", "internal/sync.runtime_nanotime", "internal/sync.runtime_SemacquireMutex", "sync/atomic.AddInt32", "(*internal/sync.Mutex).Unlock", "internal/race.ReleaseMerge", "(*internal/sync.Mutex).unlockSlow", "internal/sync.fatal", "internal/sync.runtime_Semrelease", "sync/atomic.StoreUint32", "internal/abi.NoEscape"], unfollowed := true, recurses := true, apart := false }
def MixedAddsSaid : Prop := mixedAddsRow.holds Try.pinned (OpenSpec.ofChange mixedAddsSpec)

/-- ITS FALSE NEIGHBOUR: 'it returns false'. Refute it at one input. -/
def mixedAddsWrong : ChangeSpec := { name := "mixedAdds", fn := fun _ => fun
  | [d1, d2] => { results := [.lit (.bool false)], args := [d1, d2] }
  | _ => none }
def MixedAddsWrongFalsely : Prop := mixedAddsRow.holds Try.pinned (OpenSpec.ofChange mixedAddsWrong)

/- THE SECOND FORM. 'bulk': how many values and letters a reading holds, each counted each time it is reached (what is shared counts as often as it is met; a slice's spare places count too). A statement '..UptoSaid' is the law's where the arguments, and the package variables that the reading takes, are together of bulk at most 1048576: NARROWER than '..Said'. Prove '..Said' where nothing that the law and all that it calls make is longer than what came in: it says more and counts as full. Else prove '..UptoSaid'. A law counts once. -/
mutual
def uptoBulk {H : Type} : DataW H → Nat
  | .lit (.string bytes) => bytes.length + 1
  | .lit _ => 1
  | .nil => 1
  | .ptr d => uptoBulk d + 1
  | .slice elems spare => uptoBulkAll elems + uptoBulkAll spare + 1
  | .agg parts => uptoBulkAll parts + 1
  | .iface _ d => uptoBulk d + 1
  | .map entries => uptoBulkEntries entries + 1
  | .held _ => 1
def uptoBulkAll {H : Type} : List (DataW H) → Nat
  | [] => 0
  | d :: r => uptoBulk d + uptoBulkAll r
def uptoBulkEntries {H : Type} : List (Lit × DataW H) → Nat
  | [] => 0
  | x :: r => uptoBulkEntry x + uptoBulkEntries r
def uptoBulkEntry {H : Type} : Lit × DataW H → Nat
  | (.string bytes, d) => bytes.length + uptoBulk d + 1
  | (_, d) => uptoBulk d + 1
 end
def uptoSmall : (H : Type) → List (DataW H) → Bool := fun _ ds => decide (uptoBulkAll ds ≤ 1048576)
def OpenSpec.upto (s : _root_.Go.ChangeSpec) : _root_.Go.OpenSpec := { _root_.Go.OpenSpec.ofChange s with cond := some uptoSmall }

/-- 'parquetrylaw02.RankTurns', WHERE WHAT IT READS IS OF BULK AT MOST 1048576: true; the input reads as it did. -/
def rankTurnsUptoRow : OpenClaim := { program := "ytlciacpffoekjaa", sum := "549d48cdc2a7ae0470f92e55ac1e0b42531d32757cf858b1ff49f580a9947813", func := "parquetry/parquetrylaw02.RankTurns", spec := "rankTurns", inPlace := ["sync/atomic.AddInt64", "sync/atomic.LoadUint32", "(*internal/sync.Mutex).Lock", "internal/race.Disable", "sync/atomic.CompareAndSwapInt32", "internal/race.Enable", "internal/race.Acquire", "(*internal/sync.Mutex).lockSlow", "internal/sync.runtime_canSpin", "internal/sync.runtime_doSpin", "internal/sync.throw", "internal/sync.runtime_nanotime", "internal/sync.runtime_SemacquireMutex", "sync/atomic.AddInt32", "(*internal/sync.Mutex).Unlock", "internal/race.ReleaseMerge", "(*internal/sync.Mutex).unlockSlow", "internal/sync.fatal", "internal/sync.runtime_Semrelease", "sync/atomic.StoreUint32"], unfollowed := true, recurses := true, apart := false, narrowed := true }
def RankTurnsUptoSaid : Prop := rankTurnsUptoRow.holds Try.pinned (OpenSpec.upto rankTurnsSpec)

/-- 'parquetrylaw02.RankRaw', WHERE WHAT IT READS IS OF BULK AT MOST 1048576: true; the input reads as it did. -/
def rankRawUptoRow : OpenClaim := { program := "ytlciacpffoekjaa", sum := "549d48cdc2a7ae0470f92e55ac1e0b42531d32757cf858b1ff49f580a9947813", func := "parquetry/parquetrylaw02.RankRaw", spec := "rankRaw", inPlace := ["sync/atomic.AddInt64", "sync/atomic.LoadUint32", "(*internal/sync.Mutex).Lock", "internal/race.Disable", "sync/atomic.CompareAndSwapInt32", "internal/race.Enable", "internal/race.Acquire", "(*internal/sync.Mutex).lockSlow", "internal/sync.runtime_canSpin", "internal/sync.runtime_doSpin", "internal/sync.throw", "internal/sync.runtime_nanotime", "internal/sync.runtime_SemacquireMutex", "sync/atomic.AddInt32", "(*internal/sync.Mutex).Unlock", "internal/race.ReleaseMerge", "(*internal/sync.Mutex).unlockSlow", "internal/sync.fatal", "internal/sync.runtime_Semrelease", "sync/atomic.StoreUint32", "sync/atomic.LoadInt64"], unfollowed := true, recurses := true, apart := false, narrowed := true }
def RankRawUptoSaid : Prop := rankRawUptoRow.holds Try.pinned (OpenSpec.upto rankRawSpec)

/-- 'parquetrylaw02.RankAll', WHERE WHAT IT READS IS OF BULK AT MOST 1048576: true; the input reads as it did. -/
def rankAllUptoRow : OpenClaim := { program := "ytlciacpffoekjaa", sum := "549d48cdc2a7ae0470f92e55ac1e0b42531d32757cf858b1ff49f580a9947813", func := "parquetry/parquetrylaw02.RankAll", spec := "rankAll", inPlace := ["sync/atomic.AddInt64", "sync/atomic.LoadUint32", "(*internal/sync.Mutex).Lock", "internal/race.Disable", "sync/atomic.CompareAndSwapInt32", "internal/race.Enable", "internal/race.Acquire", "(*internal/sync.Mutex).lockSlow", "internal/sync.runtime_canSpin", "internal/sync.runtime_doSpin", "internal/sync.throw", "internal/sync.runtime_nanotime", "internal/sync.runtime_SemacquireMutex", "sync/atomic.AddInt32", "(*internal/sync.Mutex).Unlock", "internal/race.ReleaseMerge", "(*internal/sync.Mutex).unlockSlow", "internal/sync.fatal", "internal/sync.runtime_Semrelease", "sync/atomic.StoreUint32", "sync/atomic.LoadInt64"], unfollowed := true, recurses := true, apart := false, narrowed := true }
def RankAllUptoSaid : Prop := rankAllUptoRow.holds Try.pinned (OpenSpec.upto rankAllSpec)

/-- 'parquetrylaw02.RankOnce', WHERE WHAT IT READS IS OF BULK AT MOST 1048576: true; the input reads as it did. -/
def rankOnceUptoRow : OpenClaim := { program := "ytlciacpffoekjaa", sum := "549d48cdc2a7ae0470f92e55ac1e0b42531d32757cf858b1ff49f580a9947813", func := "parquetry/parquetrylaw02.RankOnce", spec := "rankOnce", inPlace := ["sync/atomic.AddInt64", "sync/atomic.LoadUint32", "(*internal/sync.Mutex).Lock", "internal/race.Disable", "sync/atomic.CompareAndSwapInt32", "internal/race.Enable", "internal/race.Acquire", "(*internal/sync.Mutex).lockSlow", "internal/sync.runtime_canSpin", "internal/sync.runtime_doSpin", "internal/sync.throw", "internal/sync.runtime_nanotime", "internal/sync.runtime_SemacquireMutex", "sync/atomic.AddInt32", "(*internal/sync.Mutex).Unlock", "internal/race.ReleaseMerge", "(*internal/sync.Mutex).unlockSlow", "internal/sync.fatal", "internal/sync.runtime_Semrelease", "sync/atomic.StoreUint32", "sync/atomic.LoadInt64"], unfollowed := true, recurses := true, apart := false, narrowed := true }
def RankOnceUptoSaid : Prop := rankOnceUptoRow.holds Try.pinned (OpenSpec.upto rankOnceSpec)

/-- 'parquetrylaw02.RankNil', WHERE WHAT IT READS IS OF BULK AT MOST 1048576: true; the input reads as it did. -/
def rankNilUptoRow : OpenClaim := { program := "ytlciacpffoekjaa", sum := "549d48cdc2a7ae0470f92e55ac1e0b42531d32757cf858b1ff49f580a9947813", func := "parquetry/parquetrylaw02.RankNil", spec := "rankNil", inPlace := ["sync/atomic.AddInt64", "sync/atomic.LoadUint32", "(*internal/sync.Mutex).Lock", "internal/race.Disable", "sync/atomic.CompareAndSwapInt32", "internal/race.Enable", "internal/race.Acquire", "(*internal/sync.Mutex).lockSlow", "internal/sync.runtime_canSpin", "internal/sync.runtime_doSpin", "internal/sync.throw", "internal/sync.runtime_nanotime", "internal/sync.runtime_SemacquireMutex", "sync/atomic.AddInt32", "(*internal/sync.Mutex).Unlock", "internal/race.ReleaseMerge", "(*internal/sync.Mutex).unlockSlow", "internal/sync.fatal", "internal/sync.runtime_Semrelease", "sync/atomic.StoreUint32", "sync/atomic.LoadInt64"], unfollowed := true, recurses := true, apart := false, narrowed := true }
def RankNilUptoSaid : Prop := rankNilUptoRow.holds Try.pinned (OpenSpec.upto rankNilSpec)

/-- 'parquetrylaw03.ParenIs', WHERE WHAT IT READS IS OF BULK AT MOST 1048576: true; the input reads as it did. -/
def parenIsUptoRow : OpenClaim := { program := "ytlciacpffoekjaa", sum := "549d48cdc2a7ae0470f92e55ac1e0b42531d32757cf858b1ff49f580a9947813", func := "parquetry/parquetrylaw03.ParenIs", spec := "parenIs", inPlace := ["sync/atomic.AddInt64", "sync/atomic.LoadUint32", "(*internal/sync.Mutex).Lock", "internal/race.Disable", "sync/atomic.CompareAndSwapInt32", "internal/race.Enable", "internal/race.Acquire", "(*internal/sync.Mutex).lockSlow", "internal/sync.runtime_canSpin", "internal/sync.runtime_doSpin", "internal/sync.throw", "internal/sync.runtime_nanotime", "internal/sync.runtime_SemacquireMutex", "sync/atomic.AddInt32", "(*internal/sync.Mutex).Unlock", "internal/race.ReleaseMerge", "(*internal/sync.Mutex).unlockSlow", "internal/sync.fatal", "internal/sync.runtime_Semrelease", "sync/atomic.StoreUint32"], unfollowed := true, recurses := true, apart := false, narrowed := true }
def ParenIsUptoSaid : Prop := parenIsUptoRow.holds Try.pinned (OpenSpec.upto parenIsSpec)

/-- 'parquetrylaw03.ParenPairs', WHERE WHAT IT READS IS OF BULK AT MOST 1048576: true; the input reads as it did. -/
def parenPairsUptoRow : OpenClaim := { program := "ytlciacpffoekjaa", sum := "549d48cdc2a7ae0470f92e55ac1e0b42531d32757cf858b1ff49f580a9947813", func := "parquetry/parquetrylaw03.ParenPairs", spec := "parenPairs", inPlace := ["sync/atomic.AddInt64", "sync/atomic.LoadUint32", "(*internal/sync.Mutex).Lock", "internal/race.Disable", "sync/atomic.CompareAndSwapInt32", "internal/race.Enable", "internal/race.Acquire", "(*internal/sync.Mutex).lockSlow", "internal/sync.runtime_canSpin", "internal/sync.runtime_doSpin", "internal/sync.throw", "internal/sync.runtime_nanotime", "internal/sync.runtime_SemacquireMutex", "sync/atomic.AddInt32", "(*internal/sync.Mutex).Unlock", "internal/race.ReleaseMerge", "(*internal/sync.Mutex).unlockSlow", "internal/sync.fatal", "internal/sync.runtime_Semrelease", "sync/atomic.StoreUint32"], unfollowed := true, recurses := true, apart := false, narrowed := true }
def ParenPairsUptoSaid : Prop := parenPairsUptoRow.holds Try.pinned (OpenSpec.upto parenPairsSpec)

/-- 'parquetrylaw03.ParenJoins', WHERE WHAT IT READS IS OF BULK AT MOST 1048576: true; the input reads as it did. -/
def parenJoinsUptoRow : OpenClaim := { program := "ytlciacpffoekjaa", sum := "549d48cdc2a7ae0470f92e55ac1e0b42531d32757cf858b1ff49f580a9947813", func := "parquetry/parquetrylaw03.ParenJoins", spec := "parenJoins", inPlace := ["sync/atomic.AddInt64", "sync/atomic.LoadUint32", "(*internal/sync.Mutex).Lock", "internal/race.Disable", "sync/atomic.CompareAndSwapInt32", "internal/race.Enable", "internal/race.Acquire", "(*internal/sync.Mutex).lockSlow", "internal/sync.runtime_canSpin", "internal/sync.runtime_doSpin", "internal/sync.throw", "internal/sync.runtime_nanotime", "internal/sync.runtime_SemacquireMutex", "sync/atomic.AddInt32", "(*internal/sync.Mutex).Unlock", "internal/race.ReleaseMerge", "(*internal/sync.Mutex).unlockSlow", "internal/sync.fatal", "internal/sync.runtime_Semrelease", "sync/atomic.StoreUint32"], unfollowed := true, recurses := true, apart := false, narrowed := true }
def ParenJoinsUptoSaid : Prop := parenJoinsUptoRow.holds Try.pinned (OpenSpec.upto parenJoinsSpec)

/-- 'parquetrylaw03.ParenLows', WHERE WHAT IT READS IS OF BULK AT MOST 1048576: true; the input reads as it did. -/
def parenLowsUptoRow : OpenClaim := { program := "ytlciacpffoekjaa", sum := "549d48cdc2a7ae0470f92e55ac1e0b42531d32757cf858b1ff49f580a9947813", func := "parquetry/parquetrylaw03.ParenLows", spec := "parenLows", inPlace := ["sync/atomic.AddInt64", "sync/atomic.LoadUint32", "(*internal/sync.Mutex).Lock", "internal/race.Disable", "sync/atomic.CompareAndSwapInt32", "internal/race.Enable", "internal/race.Acquire", "(*internal/sync.Mutex).lockSlow", "internal/sync.runtime_canSpin", "internal/sync.runtime_doSpin", "internal/sync.throw", "internal/sync.runtime_nanotime", "internal/sync.runtime_SemacquireMutex", "sync/atomic.AddInt32", "(*internal/sync.Mutex).Unlock", "internal/race.ReleaseMerge", "(*internal/sync.Mutex).unlockSlow", "internal/sync.fatal", "internal/sync.runtime_Semrelease", "sync/atomic.StoreUint32"], unfollowed := true, recurses := true, apart := false, narrowed := true }
def ParenLowsUptoSaid : Prop := parenLowsUptoRow.holds Try.pinned (OpenSpec.upto parenLowsSpec)

/-- 'parquetrylaw03.ParenOnce', WHERE WHAT IT READS IS OF BULK AT MOST 1048576: true; the input reads as it did. -/
def parenOnceUptoRow : OpenClaim := { program := "ytlciacpffoekjaa", sum := "549d48cdc2a7ae0470f92e55ac1e0b42531d32757cf858b1ff49f580a9947813", func := "parquetry/parquetrylaw03.ParenOnce", spec := "parenOnce", inPlace := ["sync/atomic.AddInt64", "sync/atomic.LoadUint32", "(*internal/sync.Mutex).Lock", "internal/race.Disable", "sync/atomic.CompareAndSwapInt32", "internal/race.Enable", "internal/race.Acquire", "(*internal/sync.Mutex).lockSlow", "internal/sync.runtime_canSpin", "internal/sync.runtime_doSpin", "internal/sync.throw", "internal/sync.runtime_nanotime", "internal/sync.runtime_SemacquireMutex", "sync/atomic.AddInt32", "(*internal/sync.Mutex).Unlock", "internal/race.ReleaseMerge", "(*internal/sync.Mutex).unlockSlow", "internal/sync.fatal", "internal/sync.runtime_Semrelease", "sync/atomic.StoreUint32", "sync/atomic.LoadInt64"], unfollowed := true, recurses := true, apart := false, narrowed := true }
def ParenOnceUptoSaid : Prop := parenOnceUptoRow.holds Try.pinned (OpenSpec.upto parenOnceSpec)

/-- 'parquetrylaw04.MixedSorts', WHERE WHAT IT READS IS OF BULK AT MOST 1048576: true; the input reads as it did. -/
def mixedSortsUptoRow : OpenClaim := { program := "ytlciacpffoekjaa", sum := "549d48cdc2a7ae0470f92e55ac1e0b42531d32757cf858b1ff49f580a9947813", func := "parquetry/parquetrylaw04.MixedSorts", spec := "mixedSorts", inPlace := ["internal/bytealg.IndexByteString", "sync/atomic.AddInt64", "sync/atomic.LoadUint32", "(*internal/sync.Mutex).Lock", "internal/race.Disable", "sync/atomic.CompareAndSwapInt32", "internal/race.Enable", "internal/race.Acquire", "(*internal/sync.Mutex).lockSlow", "internal/sync.runtime_canSpin", "internal/sync.runtime_doSpin", "internal/sync.throw", "internal/sync.runtime_nanotime", "internal/sync.runtime_SemacquireMutex", "sync/atomic.AddInt32", "(*internal/sync.Mutex).Unlock", "internal/race.ReleaseMerge", "(*internal/sync.Mutex).unlockSlow", "internal/sync.fatal", "internal/sync.runtime_Semrelease", "sync/atomic.StoreUint32"], unfollowed := true, recurses := true, apart := false, narrowed := true }
def MixedSortsUptoSaid : Prop := mixedSortsUptoRow.holds Try.pinned (OpenSpec.upto mixedSortsSpec)

/-- 'parquetrylaw04.MixedPairs', WHERE WHAT IT READS IS OF BULK AT MOST 1048576: true; the input reads as it did. -/
def mixedPairsUptoRow : OpenClaim := { program := "ytlciacpffoekjaa", sum := "549d48cdc2a7ae0470f92e55ac1e0b42531d32757cf858b1ff49f580a9947813", func := "parquetry/parquetrylaw04.MixedPairs", spec := "mixedPairs", inPlace := ["internal/bytealg.IndexByteString", "sync/atomic.AddInt64", "sync/atomic.LoadUint32", "(*internal/sync.Mutex).Lock", "internal/race.Disable", "sync/atomic.CompareAndSwapInt32", "internal/race.Enable", "internal/race.Acquire", "(*internal/sync.Mutex).lockSlow", "internal/sync.runtime_canSpin", "internal/sync.runtime_doSpin", "internal/sync.throw", "internal/sync.runtime_nanotime", "internal/sync.runtime_SemacquireMutex", "sync/atomic.AddInt32", "(*internal/sync.Mutex).Unlock", "internal/race.ReleaseMerge", "(*internal/sync.Mutex).unlockSlow", "internal/sync.fatal", "internal/sync.runtime_Semrelease", "sync/atomic.StoreUint32"], unfollowed := true, recurses := true, apart := false, narrowed := true }
def MixedPairsUptoSaid : Prop := mixedPairsUptoRow.holds Try.pinned (OpenSpec.upto mixedPairsSpec)

/-- 'parquetrylaw04.MixedReads', WHERE WHAT IT READS IS OF BULK AT MOST 1048576: true; the input reads as it did. -/
def mixedReadsUptoRow : OpenClaim := { program := "ytlciacpffoekjaa", sum := "549d48cdc2a7ae0470f92e55ac1e0b42531d32757cf858b1ff49f580a9947813", func := "parquetry/parquetrylaw04.MixedReads", spec := "mixedReads", inPlace := ["internal/bytealg.IndexByteString", "sync/atomic.AddInt64", "sync/atomic.LoadUint32", "(*internal/sync.Mutex).Lock", "internal/race.Disable", "sync/atomic.CompareAndSwapInt32", "internal/race.Enable", "internal/race.Acquire", "(*internal/sync.Mutex).lockSlow", "internal/sync.runtime_canSpin", "internal/sync.runtime_doSpin", "internal/sync.throw", "internal/sync.runtime_nanotime", "internal/sync.runtime_SemacquireMutex", "sync/atomic.AddInt32", "(*internal/sync.Mutex).Unlock", "internal/race.ReleaseMerge", "(*internal/sync.Mutex).unlockSlow", "internal/sync.fatal", "internal/sync.runtime_Semrelease", "sync/atomic.StoreUint32", "internal/abi.NoEscape"], unfollowed := true, recurses := true, apart := false, narrowed := true }
def MixedReadsUptoSaid : Prop := mixedReadsUptoRow.holds Try.pinned (OpenSpec.upto mixedReadsSpec)

/-- 'parquetrylaw04.MixedCounts', WHERE WHAT IT READS IS OF BULK AT MOST 1048576: true; the input reads as it did. -/
def mixedCountsUptoRow : OpenClaim := { program := "ytlciacpffoekjaa", sum := "549d48cdc2a7ae0470f92e55ac1e0b42531d32757cf858b1ff49f580a9947813", func := "parquetry/parquetrylaw04.MixedCounts", spec := "mixedCounts", inPlace := ["internal/bytealg.IndexByteString", "sync/atomic.AddInt64", "sync/atomic.LoadUint32", "(*internal/sync.Mutex).Lock", "internal/race.Disable", "sync/atomic.CompareAndSwapInt32", "internal/race.Enable", "internal/race.Acquire", "(*internal/sync.Mutex).lockSlow", "internal/sync.runtime_canSpin", "internal/sync.runtime_doSpin", "internal/sync.throw", "internal/sync.runtime_nanotime", "internal/sync.runtime_SemacquireMutex", "sync/atomic.AddInt32", "(*internal/sync.Mutex).Unlock", "internal/race.ReleaseMerge", "(*internal/sync.Mutex).unlockSlow", "internal/sync.fatal", "internal/sync.runtime_Semrelease", "sync/atomic.StoreUint32"], unfollowed := true, recurses := true, apart := false, narrowed := true }
def MixedCountsUptoSaid : Prop := mixedCountsUptoRow.holds Try.pinned (OpenSpec.upto mixedCountsSpec)

/-- 'parquetrylaw04.MixedAdds', WHERE WHAT IT READS IS OF BULK AT MOST 1048576: true; the input reads as it did. -/
def mixedAddsUptoRow : OpenClaim := { program := "ytlciacpffoekjaa", sum := "549d48cdc2a7ae0470f92e55ac1e0b42531d32757cf858b1ff49f580a9947813", func := "parquetry/parquetrylaw04.MixedAdds", spec := "mixedAdds", inPlace := ["internal/bytealg.IndexByteString", "sync/atomic.AddInt64", "sync/atomic.LoadUint32", "(*internal/sync.Mutex).Lock", "internal/race.Disable", "sync/atomic.CompareAndSwapInt32", "internal/race.Enable", "internal/race.Acquire", "(*internal/sync.Mutex).lockSlow", "internal/sync.runtime_canSpin", "internal/sync.runtime_doSpin", "internal/sync.throw", "internal/sync.runtime_nanotime", "internal/sync.runtime_SemacquireMutex", "sync/atomic.AddInt32", "(*internal/sync.Mutex).Unlock", "internal/race.ReleaseMerge", "(*internal/sync.Mutex).unlockSlow", "internal/sync.fatal", "internal/sync.runtime_Semrelease", "sync/atomic.StoreUint32", "internal/abi.NoEscape"], unfollowed := true, recurses := true, apart := false, narrowed := true }
def MixedAddsUptoSaid : Prop := mixedAddsUptoRow.holds Try.pinned (OpenSpec.upto mixedAddsSpec)

end Rows
end Go.Proofs.Ytlciacpffoekjaa
