/-
  No cell of these rows narrows 'for every input' (looked for: loops, veiled, ifaces, maps, wideKeys, modest, calm, conditions, laid).
  DERIVED. THE GIVEN ROWS OF THIS SEAT. 13 by the template 'for every input the law returns true; each argument reads behind the call as it read before'; 0 by the template 'total and deterministic' (their statements: YtipelclohcdkcaaGreatTotals.lean).
  GIVEN WITH THE SEED: the statements are not yours to turn. If you find one false, say at which input.
  Laid BY PROGRAM, IN A SANDBOX (cutbox-rows.mjs): the forced cells as the released guide's own fill.sh prints them over the translation 845cf96c208b3a6c… (all of the seat's roots in one cut). By AI agents, Wed Nov 11 2026. No macro, syntax, notation, axiom, sorry.
-/
import Derived.Test.YtipelclohcdkcaaGreatChecked
import GoSem.Claim
import GoSem.ClaimJoined
import GoSem.ClaimMapViews
import Derived.JoinedTies
import Derived.KernelRfl
namespace Go.Proofs.YtipelclohcdkcaaGreat
/- THE CELL 'sum', in the pinned program and in every row, IS THE sha256 OF THE DUMP (.gsa) THAT YtipelclohcdkcaaGreatProg.lean LOADS. Nothing in Lean hashes anything: it is a label: what it is worth is what the hold of that sum in a sandbox is worth. -/
noncomputable def Tryz.pinned : Pinned := { name := "ytipelclohcdkcaagreat", sum := "845cf96c208b3a6c3be07855cab06d8b3fd495091edd2f87cd836cffc2a664f6", checked := Tryz.checked }
namespace Rows
def none {H : Type} : Left H := { results := [], args := [] }

/-- 'parquetrylaw04.MixedIs': WHATEVER THE INPUT: true; the input reads as it did. -/
def mixedIsSpec : ChangeSpec := { name := "mixedIs", fn := fun _ => fun
  | [d1, d2] => { results := [.lit (.bool true)], args := [d1, d2] }
  | _ => none }
def mixedIsRow : OpenClaim := { program := "ytipelclohcdkcaagreat", sum := "845cf96c208b3a6c3be07855cab06d8b3fd495091edd2f87cd836cffc2a664f6", func := "parquetry/parquetrylaw04.MixedIs", spec := "mixedIs", inPlace := ["internal/bytealg.IndexByteString", "sync/atomic.AddInt64", "sync/atomic.LoadUint32", "(*internal/sync.Mutex).Lock", "internal/race.Disable", "sync/atomic.CompareAndSwapInt32", "internal/race.Enable", "internal/race.Acquire", "(*internal/sync.Mutex).lockSlow", "internal/sync.runtime_canSpin", "internal/sync.runtime_doSpin", "internal/sync.throw", "internal/sync.runtime_nanotime", "internal/sync.runtime_SemacquireMutex", "sync/atomic.AddInt32", "(*internal/sync.Mutex).Unlock", "internal/race.ReleaseMerge", "(*internal/sync.Mutex).unlockSlow", "internal/sync.fatal", "internal/sync.runtime_Semrelease", "sync/atomic.StoreUint32", "internal/abi.NoEscape"], unfollowed := true, recurses := true, apart := false }
def MixedIsSaid : Prop := mixedIsRow.holds Tryz.pinned (OpenSpec.ofChange mixedIsSpec)

/-- ITS FALSE NEIGHBOUR: 'it returns false'. Refute it at one input. -/
def mixedIsWrong : ChangeSpec := { name := "mixedIs", fn := fun _ => fun
  | [d1, d2] => { results := [.lit (.bool false)], args := [d1, d2] }
  | _ => none }
def MixedIsWrongFalsely : Prop := mixedIsRow.holds Tryz.pinned (OpenSpec.ofChange mixedIsWrong)

/-- 'parquetrylaw13.LookVertices': WHATEVER THE INPUT: true; the input reads as it did. -/
def lookVerticesSpec : ChangeSpec := { name := "lookVertices", fn := fun _ => fun
  | [d1, d2, d3, d4, d5] => { results := [.lit (.bool true)], args := [d1, d2, d3, d4, d5] }
  | _ => none }
def lookVerticesRow : OpenClaim := { program := "ytipelclohcdkcaagreat", sum := "845cf96c208b3a6c3be07855cab06d8b3fd495091edd2f87cd836cffc2a664f6", func := "parquetry/parquetrylaw13.LookVertices", spec := "lookVertices", inPlace := ["sync/atomic.AddInt64", "sync/atomic.LoadUint32", "(*internal/sync.Mutex).Lock", "internal/race.Disable", "sync/atomic.CompareAndSwapInt32", "internal/race.Enable", "internal/race.Acquire", "(*internal/sync.Mutex).lockSlow", "internal/sync.runtime_canSpin", "internal/sync.runtime_doSpin", "internal/sync.throw", "internal/sync.runtime_nanotime", "internal/sync.runtime_SemacquireMutex", "sync/atomic.AddInt32", "(*internal/sync.Mutex).Unlock", "internal/race.ReleaseMerge", "(*internal/sync.Mutex).unlockSlow", "internal/sync.fatal", "internal/sync.runtime_Semrelease", "sync/atomic.StoreUint32"], unfollowed := true, recurses := true, apart := false }
def LookVerticesSaid : Prop := lookVerticesRow.holds Tryz.pinned (OpenSpec.ofChange lookVerticesSpec)

/-- ITS FALSE NEIGHBOUR: 'it returns false'. Refute it at one input. -/
def lookVerticesWrong : ChangeSpec := { name := "lookVertices", fn := fun _ => fun
  | [d1, d2, d3, d4, d5] => { results := [.lit (.bool false)], args := [d1, d2, d3, d4, d5] }
  | _ => none }
def LookVerticesWrongFalsely : Prop := lookVerticesRow.holds Tryz.pinned (OpenSpec.ofChange lookVerticesWrong)

/-- 'parquetrylaw13.LookSums': WHATEVER THE INPUT: true; the input reads as it did. -/
def lookSumsSpec : ChangeSpec := { name := "lookSums", fn := fun _ => fun
  | [d1, d2, d3] => { results := [.lit (.bool true)], args := [d1, d2, d3] }
  | _ => none }
def lookSumsRow : OpenClaim := { program := "ytipelclohcdkcaagreat", sum := "845cf96c208b3a6c3be07855cab06d8b3fd495091edd2f87cd836cffc2a664f6", func := "parquetry/parquetrylaw13.LookSums", spec := "lookSums", inPlace := ["sync/atomic.AddInt64", "sync/atomic.LoadUint32", "(*internal/sync.Mutex).Lock", "internal/race.Disable", "sync/atomic.CompareAndSwapInt32", "internal/race.Enable", "internal/race.Acquire", "(*internal/sync.Mutex).lockSlow", "internal/sync.runtime_canSpin", "internal/sync.runtime_doSpin", "internal/sync.throw", "internal/sync.runtime_nanotime", "internal/sync.runtime_SemacquireMutex", "sync/atomic.AddInt32", "(*internal/sync.Mutex).Unlock", "internal/race.ReleaseMerge", "(*internal/sync.Mutex).unlockSlow", "internal/sync.fatal", "internal/sync.runtime_Semrelease", "sync/atomic.StoreUint32"], unfollowed := true, recurses := true, apart := false }
def LookSumsSaid : Prop := lookSumsRow.holds Tryz.pinned (OpenSpec.ofChange lookSumsSpec)

/-- ITS FALSE NEIGHBOUR: 'it returns false'. Refute it at one input. -/
def lookSumsWrong : ChangeSpec := { name := "lookSums", fn := fun _ => fun
  | [d1, d2, d3] => { results := [.lit (.bool false)], args := [d1, d2, d3] }
  | _ => none }
def LookSumsWrongFalsely : Prop := lookSumsRow.holds Tryz.pinned (OpenSpec.ofChange lookSumsWrong)

/-- 'parquetrylaw13.LookFaces': WHATEVER THE INPUT: true; the input reads as it did. -/
def lookFacesSpec : ChangeSpec := { name := "lookFaces", fn := fun _ => fun
  | [d1, d2, d3, d4, d5, d6] => { results := [.lit (.bool true)], args := [d1, d2, d3, d4, d5, d6] }
  | _ => none }
def lookFacesRow : OpenClaim := { program := "ytipelclohcdkcaagreat", sum := "845cf96c208b3a6c3be07855cab06d8b3fd495091edd2f87cd836cffc2a664f6", func := "parquetry/parquetrylaw13.LookFaces", spec := "lookFaces", inPlace := ["sync/atomic.AddInt64", "sync/atomic.LoadUint32", "(*internal/sync.Mutex).Lock", "internal/race.Disable", "sync/atomic.CompareAndSwapInt32", "internal/race.Enable", "internal/race.Acquire", "(*internal/sync.Mutex).lockSlow", "internal/sync.runtime_canSpin", "internal/sync.runtime_doSpin", "internal/sync.throw", "internal/sync.runtime_nanotime", "internal/sync.runtime_SemacquireMutex", "sync/atomic.AddInt32", "(*internal/sync.Mutex).Unlock", "internal/race.ReleaseMerge", "(*internal/sync.Mutex).unlockSlow", "internal/sync.fatal", "internal/sync.runtime_Semrelease", "sync/atomic.StoreUint32"], unfollowed := true, recurses := true, apart := false }
def LookFacesSaid : Prop := lookFacesRow.holds Tryz.pinned (OpenSpec.ofChange lookFacesSpec)

/-- ITS FALSE NEIGHBOUR: 'it returns false'. Refute it at one input. -/
def lookFacesWrong : ChangeSpec := { name := "lookFaces", fn := fun _ => fun
  | [d1, d2, d3, d4, d5, d6] => { results := [.lit (.bool false)], args := [d1, d2, d3, d4, d5, d6] }
  | _ => none }
def LookFacesWrongFalsely : Prop := lookFacesRow.holds Tryz.pinned (OpenSpec.ofChange lookFacesWrong)

/-- 'parquetrylaw13.LookDarts': WHATEVER THE INPUT: true; the input reads as it did. -/
def lookDartsSpec : ChangeSpec := { name := "lookDarts", fn := fun _ => fun
  | [d1, d2, d3, d4] => { results := [.lit (.bool true)], args := [d1, d2, d3, d4] }
  | _ => none }
def lookDartsRow : OpenClaim := { program := "ytipelclohcdkcaagreat", sum := "845cf96c208b3a6c3be07855cab06d8b3fd495091edd2f87cd836cffc2a664f6", func := "parquetry/parquetrylaw13.LookDarts", spec := "lookDarts", inPlace := ["sync/atomic.AddInt64", "sync/atomic.LoadUint32", "(*internal/sync.Mutex).Lock", "internal/race.Disable", "sync/atomic.CompareAndSwapInt32", "internal/race.Enable", "internal/race.Acquire", "(*internal/sync.Mutex).lockSlow", "internal/sync.runtime_canSpin", "internal/sync.runtime_doSpin", "internal/sync.throw", "internal/sync.runtime_nanotime", "internal/sync.runtime_SemacquireMutex", "sync/atomic.AddInt32", "(*internal/sync.Mutex).Unlock", "internal/race.ReleaseMerge", "(*internal/sync.Mutex).unlockSlow", "internal/sync.fatal", "internal/sync.runtime_Semrelease", "sync/atomic.StoreUint32"], unfollowed := true, recurses := true, apart := false }
def LookDartsSaid : Prop := lookDartsRow.holds Tryz.pinned (OpenSpec.ofChange lookDartsSpec)

/-- ITS FALSE NEIGHBOUR: 'it returns false'. Refute it at one input. -/
def lookDartsWrong : ChangeSpec := { name := "lookDarts", fn := fun _ => fun
  | [d1, d2, d3, d4] => { results := [.lit (.bool false)], args := [d1, d2, d3, d4] }
  | _ => none }
def LookDartsWrongFalsely : Prop := lookDartsRow.holds Tryz.pinned (OpenSpec.ofChange lookDartsWrong)

/-- 'parquetrylaw13.LookAsks': WHATEVER THE INPUT: true; the input reads as it did. -/
def lookAsksSpec : ChangeSpec := { name := "lookAsks", fn := fun _ => fun
  | [d1, d2, d3] => { results := [.lit (.bool true)], args := [d1, d2, d3] }
  | _ => none }
def lookAsksRow : OpenClaim := { program := "ytipelclohcdkcaagreat", sum := "845cf96c208b3a6c3be07855cab06d8b3fd495091edd2f87cd836cffc2a664f6", func := "parquetry/parquetrylaw13.LookAsks", spec := "lookAsks", inPlace := ["sync/atomic.AddInt64", "sync/atomic.LoadUint32", "(*internal/sync.Mutex).Lock", "internal/race.Disable", "sync/atomic.CompareAndSwapInt32", "internal/race.Enable", "internal/race.Acquire", "(*internal/sync.Mutex).lockSlow", "internal/sync.runtime_canSpin", "internal/sync.runtime_doSpin", "internal/sync.throw", "internal/sync.runtime_nanotime", "internal/sync.runtime_SemacquireMutex", "sync/atomic.AddInt32", "(*internal/sync.Mutex).Unlock", "internal/race.ReleaseMerge", "(*internal/sync.Mutex).unlockSlow", "internal/sync.fatal", "internal/sync.runtime_Semrelease", "sync/atomic.StoreUint32", "sync/atomic.LoadInt64"], unfollowed := true, recurses := true, apart := false }
def LookAsksSaid : Prop := lookAsksRow.holds Tryz.pinned (OpenSpec.ofChange lookAsksSpec)

/-- ITS FALSE NEIGHBOUR: 'it returns false'. Refute it at one input. -/
def lookAsksWrong : ChangeSpec := { name := "lookAsks", fn := fun _ => fun
  | [d1, d2, d3] => { results := [.lit (.bool false)], args := [d1, d2, d3] }
  | _ => none }
def LookAsksWrongFalsely : Prop := lookAsksRow.holds Tryz.pinned (OpenSpec.ofChange lookAsksWrong)

/-- 'parquetrylaw12.TuranCounts': WHATEVER THE INPUT: true; the input reads as it did. -/
def turanCountsSpec : ChangeSpec := { name := "turanCounts", fn := fun _ => fun
  | [d1, d2] => { results := [.lit (.bool true)], args := [d1, d2] }
  | _ => none }
def turanCountsRow : OpenClaim := { program := "ytipelclohcdkcaagreat", sum := "845cf96c208b3a6c3be07855cab06d8b3fd495091edd2f87cd836cffc2a664f6", func := "parquetry/parquetrylaw12.TuranCounts", spec := "turanCounts", inPlace := ["sync/atomic.LoadUint32", "(*internal/sync.Mutex).Lock", "internal/race.Disable", "sync/atomic.CompareAndSwapInt32", "internal/race.Enable", "internal/race.Acquire", "(*internal/sync.Mutex).lockSlow", "internal/sync.runtime_canSpin", "internal/sync.runtime_doSpin", "internal/sync.throw", "internal/sync.runtime_nanotime", "internal/sync.runtime_SemacquireMutex", "sync/atomic.AddInt32", "(*internal/sync.Mutex).Unlock", "internal/race.ReleaseMerge", "(*internal/sync.Mutex).unlockSlow", "internal/sync.fatal", "internal/sync.runtime_Semrelease", "sync/atomic.StoreUint32", "internal/bytealg.IndexByteString", "internal/abi.NoEscape", "sync/atomic.AddInt64"], unfollowed := true, recurses := true, apart := false }
def TuranCountsSaid : Prop := turanCountsRow.holds Tryz.pinned (OpenSpec.ofChange turanCountsSpec)

/-- ITS FALSE NEIGHBOUR: 'it returns false'. Refute it at one input. -/
def turanCountsWrong : ChangeSpec := { name := "turanCounts", fn := fun _ => fun
  | [d1, d2] => { results := [.lit (.bool false)], args := [d1, d2] }
  | _ => none }
def TuranCountsWrongFalsely : Prop := turanCountsRow.holds Tryz.pinned (OpenSpec.ofChange turanCountsWrong)

/-- 'parquetrylaw12.TuranNames': WHATEVER THE INPUT: true; the input reads as it did. -/
def turanNamesSpec : ChangeSpec := { name := "turanNames", fn := fun _ => fun
  | [d1, d2, d3] => { results := [.lit (.bool true)], args := [d1, d2, d3] }
  | _ => none }
def turanNamesRow : OpenClaim := { program := "ytipelclohcdkcaagreat", sum := "845cf96c208b3a6c3be07855cab06d8b3fd495091edd2f87cd836cffc2a664f6", func := "parquetry/parquetrylaw12.TuranNames", spec := "turanNames", inPlace := ["sync/atomic.LoadUint32", "(*internal/sync.Mutex).Lock", "internal/race.Disable", "sync/atomic.CompareAndSwapInt32", "internal/race.Enable", "internal/race.Acquire", "(*internal/sync.Mutex).lockSlow", "internal/sync.runtime_canSpin", "internal/sync.runtime_doSpin", "internal/sync.throw", "internal/sync.runtime_nanotime", "internal/sync.runtime_SemacquireMutex", "sync/atomic.AddInt32", "(*internal/sync.Mutex).Unlock", "internal/race.ReleaseMerge", "(*internal/sync.Mutex).unlockSlow", "internal/sync.fatal", "internal/sync.runtime_Semrelease", "sync/atomic.StoreUint32", "internal/bytealg.IndexByteString", "internal/abi.NoEscape", "sync/atomic.AddInt64"], unfollowed := true, recurses := true, apart := false }
def TuranNamesSaid : Prop := turanNamesRow.holds Tryz.pinned (OpenSpec.ofChange turanNamesSpec)

/-- ITS FALSE NEIGHBOUR: 'it returns false'. Refute it at one input. -/
def turanNamesWrong : ChangeSpec := { name := "turanNames", fn := fun _ => fun
  | [d1, d2, d3] => { results := [.lit (.bool false)], args := [d1, d2, d3] }
  | _ => none }
def TuranNamesWrongFalsely : Prop := turanNamesRow.holds Tryz.pinned (OpenSpec.ofChange turanNamesWrong)

/-- 'parquetrylaw12.TuranNil': WHATEVER THE INPUT: true; the input reads as it did. -/
def turanNilSpec : ChangeSpec := { name := "turanNil", fn := fun _ => fun
  | [d] => { results := [.lit (.bool true)], args := [d] }
  | _ => none }
def turanNilRow : OpenClaim := { program := "ytipelclohcdkcaagreat", sum := "845cf96c208b3a6c3be07855cab06d8b3fd495091edd2f87cd836cffc2a664f6", func := "parquetry/parquetrylaw12.TuranNil", spec := "turanNil", inPlace := ["sync/atomic.LoadUint32", "(*internal/sync.Mutex).Lock", "internal/race.Disable", "sync/atomic.CompareAndSwapInt32", "internal/race.Enable", "internal/race.Acquire", "(*internal/sync.Mutex).lockSlow", "internal/sync.runtime_canSpin", "internal/sync.runtime_doSpin", "internal/sync.throw", "internal/sync.runtime_nanotime", "internal/sync.runtime_SemacquireMutex", "sync/atomic.AddInt32", "(*internal/sync.Mutex).Unlock", "internal/race.ReleaseMerge", "(*internal/sync.Mutex).unlockSlow", "internal/sync.fatal", "internal/sync.runtime_Semrelease", "sync/atomic.StoreUint32", "internal/bytealg.IndexByteString", "internal/abi.NoEscape", "sync/atomic.AddInt64"], unfollowed := true, recurses := true, apart := false }
def TuranNilSaid : Prop := turanNilRow.holds Tryz.pinned (OpenSpec.ofChange turanNilSpec)

/-- ITS FALSE NEIGHBOUR: 'it returns false'. Refute it at one input. -/
def turanNilWrong : ChangeSpec := { name := "turanNil", fn := fun _ => fun
  | [d] => { results := [.lit (.bool false)], args := [d] }
  | _ => none }
def TuranNilWrongFalsely : Prop := turanNilRow.holds Tryz.pinned (OpenSpec.ofChange turanNilWrong)

/-- 'parquetrylaw12.TuranJoins': WHATEVER THE INPUT: true; the input reads as it did. -/
def turanJoinsSpec : ChangeSpec := { name := "turanJoins", fn := fun _ => fun
  | [d1, d2, d3, d4] => { results := [.lit (.bool true)], args := [d1, d2, d3, d4] }
  | _ => none }
def turanJoinsRow : OpenClaim := { program := "ytipelclohcdkcaagreat", sum := "845cf96c208b3a6c3be07855cab06d8b3fd495091edd2f87cd836cffc2a664f6", func := "parquetry/parquetrylaw12.TuranJoins", spec := "turanJoins", inPlace := ["sync/atomic.LoadUint32", "(*internal/sync.Mutex).Lock", "internal/race.Disable", "sync/atomic.CompareAndSwapInt32", "internal/race.Enable", "internal/race.Acquire", "(*internal/sync.Mutex).lockSlow", "internal/sync.runtime_canSpin", "internal/sync.runtime_doSpin", "internal/sync.throw", "internal/sync.runtime_nanotime", "internal/sync.runtime_SemacquireMutex", "sync/atomic.AddInt32", "(*internal/sync.Mutex).Unlock", "internal/race.ReleaseMerge", "(*internal/sync.Mutex).unlockSlow", "internal/sync.fatal", "internal/sync.runtime_Semrelease", "sync/atomic.StoreUint32", "internal/bytealg.IndexByteString", "internal/abi.NoEscape", "sync/atomic.AddInt64"], unfollowed := true, recurses := true, apart := false }
def TuranJoinsSaid : Prop := turanJoinsRow.holds Tryz.pinned (OpenSpec.ofChange turanJoinsSpec)

/-- ITS FALSE NEIGHBOUR: 'it returns false'. Refute it at one input. -/
def turanJoinsWrong : ChangeSpec := { name := "turanJoins", fn := fun _ => fun
  | [d1, d2, d3, d4] => { results := [.lit (.bool false)], args := [d1, d2, d3, d4] }
  | _ => none }
def TuranJoinsWrongFalsely : Prop := turanJoinsRow.holds Tryz.pinned (OpenSpec.ofChange turanJoinsWrong)

/-- 'parquetrylaw12.TuranWords': WHATEVER THE INPUT: true; the input reads as it did. -/
def turanWordsSpec : ChangeSpec := { name := "turanWords", fn := fun _ => fun
  | [d1, d2, d3, d4] => { results := [.lit (.bool true)], args := [d1, d2, d3, d4] }
  | _ => none }
def turanWordsRow : OpenClaim := { program := "ytipelclohcdkcaagreat", sum := "845cf96c208b3a6c3be07855cab06d8b3fd495091edd2f87cd836cffc2a664f6", func := "parquetry/parquetrylaw12.TuranWords", spec := "turanWords", inPlace := ["sync/atomic.LoadUint32", "(*internal/sync.Mutex).Lock", "internal/race.Disable", "sync/atomic.CompareAndSwapInt32", "internal/race.Enable", "internal/race.Acquire", "(*internal/sync.Mutex).lockSlow", "internal/sync.runtime_canSpin", "internal/sync.runtime_doSpin", "internal/sync.throw", "internal/sync.runtime_nanotime", "internal/sync.runtime_SemacquireMutex", "sync/atomic.AddInt32", "(*internal/sync.Mutex).Unlock", "internal/race.ReleaseMerge", "(*internal/sync.Mutex).unlockSlow", "internal/sync.fatal", "internal/sync.runtime_Semrelease", "sync/atomic.StoreUint32", "internal/bytealg.IndexByteString", "internal/abi.NoEscape", "sync/atomic.AddInt64"], unfollowed := true, recurses := true, apart := false }
def TuranWordsSaid : Prop := turanWordsRow.holds Tryz.pinned (OpenSpec.ofChange turanWordsSpec)

/-- ITS FALSE NEIGHBOUR: 'it returns false'. Refute it at one input. -/
def turanWordsWrong : ChangeSpec := { name := "turanWords", fn := fun _ => fun
  | [d1, d2, d3, d4] => { results := [.lit (.bool false)], args := [d1, d2, d3, d4] }
  | _ => none }
def TuranWordsWrongFalsely : Prop := turanWordsRow.holds Tryz.pinned (OpenSpec.ofChange turanWordsWrong)

/-- 'parquetrylaw12.TuranCodes': WHATEVER THE INPUT: true; the input reads as it did. -/
def turanCodesSpec : ChangeSpec := { name := "turanCodes", fn := fun _ => fun
  | [d1, d2, d3, d4, d5] => { results := [.lit (.bool true)], args := [d1, d2, d3, d4, d5] }
  | _ => none }
def turanCodesRow : OpenClaim := { program := "ytipelclohcdkcaagreat", sum := "845cf96c208b3a6c3be07855cab06d8b3fd495091edd2f87cd836cffc2a664f6", func := "parquetry/parquetrylaw12.TuranCodes", spec := "turanCodes", inPlace := ["sync/atomic.LoadUint32", "(*internal/sync.Mutex).Lock", "internal/race.Disable", "sync/atomic.CompareAndSwapInt32", "internal/race.Enable", "internal/race.Acquire", "(*internal/sync.Mutex).lockSlow", "internal/sync.runtime_canSpin", "internal/sync.runtime_doSpin", "internal/sync.throw", "internal/sync.runtime_nanotime", "internal/sync.runtime_SemacquireMutex", "sync/atomic.AddInt32", "(*internal/sync.Mutex).Unlock", "internal/race.ReleaseMerge", "(*internal/sync.Mutex).unlockSlow", "internal/sync.fatal", "internal/sync.runtime_Semrelease", "sync/atomic.StoreUint32", "internal/bytealg.IndexByteString", "internal/abi.NoEscape", "sync/atomic.AddInt64"], unfollowed := true, recurses := true, apart := false }
def TuranCodesSaid : Prop := turanCodesRow.holds Tryz.pinned (OpenSpec.ofChange turanCodesSpec)

/-- ITS FALSE NEIGHBOUR: 'it returns false'. Refute it at one input. -/
def turanCodesWrong : ChangeSpec := { name := "turanCodes", fn := fun _ => fun
  | [d1, d2, d3, d4, d5] => { results := [.lit (.bool false)], args := [d1, d2, d3, d4, d5] }
  | _ => none }
def TuranCodesWrongFalsely : Prop := turanCodesRow.holds Tryz.pinned (OpenSpec.ofChange turanCodesWrong)

/-- 'parquetrylaw13.LookSame': WHATEVER THE INPUT: true; the input reads as it did. -/
def lookSameSpec : ChangeSpec := { name := "lookSame", fn := fun _ => fun
  | [d1, d2, d3, d4] => { results := [.lit (.bool true)], args := [d1, d2, d3, d4] }
  | _ => none }
def lookSameRow : OpenClaim := { program := "ytipelclohcdkcaagreat", sum := "845cf96c208b3a6c3be07855cab06d8b3fd495091edd2f87cd836cffc2a664f6", func := "parquetry/parquetrylaw13.LookSame", spec := "lookSame", inPlace := ["sync/atomic.AddInt64", "sync/atomic.LoadUint32", "(*internal/sync.Mutex).Lock", "internal/race.Disable", "sync/atomic.CompareAndSwapInt32", "internal/race.Enable", "internal/race.Acquire", "(*internal/sync.Mutex).lockSlow", "internal/sync.runtime_canSpin", "internal/sync.runtime_doSpin", "internal/sync.throw", "internal/sync.runtime_nanotime", "internal/sync.runtime_SemacquireMutex", "sync/atomic.AddInt32", "(*internal/sync.Mutex).Unlock", "internal/race.ReleaseMerge", "(*internal/sync.Mutex).unlockSlow", "internal/sync.fatal", "internal/sync.runtime_Semrelease", "sync/atomic.StoreUint32"], unfollowed := true, recurses := true, apart := false }
def LookSameSaid : Prop := lookSameRow.holds Tryz.pinned (OpenSpec.ofChange lookSameSpec)

/-- ITS FALSE NEIGHBOUR: 'it returns false'. Refute it at one input. -/
def lookSameWrong : ChangeSpec := { name := "lookSame", fn := fun _ => fun
  | [d1, d2, d3, d4] => { results := [.lit (.bool false)], args := [d1, d2, d3, d4] }
  | _ => none }
def LookSameWrongFalsely : Prop := lookSameRow.holds Tryz.pinned (OpenSpec.ofChange lookSameWrong)

/- THE SECOND FORM. 'bulk': how many values and letters a reading holds, each counted each time it is reached (what is shared counts as often as it is met; a slice's spare places count too). A statement '..UptoSaid' is the law's where the arguments, and the package variables that the reading takes, are together of bulk at most 1048576: NARROWER than '..Said'. Prove '..Said' where nothing that the law and all that it calls make is longer than what came in: it says more and counts as full. Else prove '..UptoSaid'. A law counts once. -/
mutual
def uptoBulk {H : Type} : DataW H → Nat
  | .lit (.string bytes) => bytes.length + 1
  | .lit _ => 1
  | .nil => 1
  | .ptr d => uptoBulk d + 1
  | .slice elems spare => uptoBulkAll elems + uptoBulkAll spare + 1
  | .agg parts => uptoBulkAll parts + 1
  | .iface _ d => uptoBulk d + 1
  | .map entries => uptoBulkEntries entries + 1
  | .held _ => 1
def uptoBulkAll {H : Type} : List (DataW H) → Nat
  | [] => 0
  | d :: r => uptoBulk d + uptoBulkAll r
def uptoBulkEntries {H : Type} : List (Lit × DataW H) → Nat
  | [] => 0
  | x :: r => uptoBulkEntry x + uptoBulkEntries r
def uptoBulkEntry {H : Type} : Lit × DataW H → Nat
  | (.string bytes, d) => bytes.length + uptoBulk d + 1
  | (_, d) => uptoBulk d + 1
 end
def uptoSmall : (H : Type) → List (DataW H) → Bool := fun _ ds => decide (uptoBulkAll ds ≤ 1048576)
def OpenSpec.upto (s : _root_.Go.ChangeSpec) : _root_.Go.OpenSpec := { _root_.Go.OpenSpec.ofChange s with cond := some uptoSmall }

/-- 'parquetrylaw04.MixedIs', WHERE WHAT IT READS IS OF BULK AT MOST 1048576: true; the input reads as it did. -/
def mixedIsUptoRow : OpenClaim := { program := "ytipelclohcdkcaagreat", sum := "845cf96c208b3a6c3be07855cab06d8b3fd495091edd2f87cd836cffc2a664f6", func := "parquetry/parquetrylaw04.MixedIs", spec := "mixedIs", inPlace := ["internal/bytealg.IndexByteString", "sync/atomic.AddInt64", "sync/atomic.LoadUint32", "(*internal/sync.Mutex).Lock", "internal/race.Disable", "sync/atomic.CompareAndSwapInt32", "internal/race.Enable", "internal/race.Acquire", "(*internal/sync.Mutex).lockSlow", "internal/sync.runtime_canSpin", "internal/sync.runtime_doSpin", "internal/sync.throw", "internal/sync.runtime_nanotime", "internal/sync.runtime_SemacquireMutex", "sync/atomic.AddInt32", "(*internal/sync.Mutex).Unlock", "internal/race.ReleaseMerge", "(*internal/sync.Mutex).unlockSlow", "internal/sync.fatal", "internal/sync.runtime_Semrelease", "sync/atomic.StoreUint32", "internal/abi.NoEscape"], unfollowed := true, recurses := true, apart := false, narrowed := true }
def MixedIsUptoSaid : Prop := mixedIsUptoRow.holds Tryz.pinned (OpenSpec.upto mixedIsSpec)

/-- 'parquetrylaw13.LookVertices', WHERE WHAT IT READS IS OF BULK AT MOST 1048576: true; the input reads as it did. -/
def lookVerticesUptoRow : OpenClaim := { program := "ytipelclohcdkcaagreat", sum := "845cf96c208b3a6c3be07855cab06d8b3fd495091edd2f87cd836cffc2a664f6", func := "parquetry/parquetrylaw13.LookVertices", spec := "lookVertices", inPlace := ["sync/atomic.AddInt64", "sync/atomic.LoadUint32", "(*internal/sync.Mutex).Lock", "internal/race.Disable", "sync/atomic.CompareAndSwapInt32", "internal/race.Enable", "internal/race.Acquire", "(*internal/sync.Mutex).lockSlow", "internal/sync.runtime_canSpin", "internal/sync.runtime_doSpin", "internal/sync.throw", "internal/sync.runtime_nanotime", "internal/sync.runtime_SemacquireMutex", "sync/atomic.AddInt32", "(*internal/sync.Mutex).Unlock", "internal/race.ReleaseMerge", "(*internal/sync.Mutex).unlockSlow", "internal/sync.fatal", "internal/sync.runtime_Semrelease", "sync/atomic.StoreUint32"], unfollowed := true, recurses := true, apart := false, narrowed := true }
def LookVerticesUptoSaid : Prop := lookVerticesUptoRow.holds Tryz.pinned (OpenSpec.upto lookVerticesSpec)

/-- 'parquetrylaw13.LookSums', WHERE WHAT IT READS IS OF BULK AT MOST 1048576: true; the input reads as it did. -/
def lookSumsUptoRow : OpenClaim := { program := "ytipelclohcdkcaagreat", sum := "845cf96c208b3a6c3be07855cab06d8b3fd495091edd2f87cd836cffc2a664f6", func := "parquetry/parquetrylaw13.LookSums", spec := "lookSums", inPlace := ["sync/atomic.AddInt64", "sync/atomic.LoadUint32", "(*internal/sync.Mutex).Lock", "internal/race.Disable", "sync/atomic.CompareAndSwapInt32", "internal/race.Enable", "internal/race.Acquire", "(*internal/sync.Mutex).lockSlow", "internal/sync.runtime_canSpin", "internal/sync.runtime_doSpin", "internal/sync.throw", "internal/sync.runtime_nanotime", "internal/sync.runtime_SemacquireMutex", "sync/atomic.AddInt32", "(*internal/sync.Mutex).Unlock", "internal/race.ReleaseMerge", "(*internal/sync.Mutex).unlockSlow", "internal/sync.fatal", "internal/sync.runtime_Semrelease", "sync/atomic.StoreUint32"], unfollowed := true, recurses := true, apart := false, narrowed := true }
def LookSumsUptoSaid : Prop := lookSumsUptoRow.holds Tryz.pinned (OpenSpec.upto lookSumsSpec)

/-- 'parquetrylaw13.LookFaces', WHERE WHAT IT READS IS OF BULK AT MOST 1048576: true; the input reads as it did. -/
def lookFacesUptoRow : OpenClaim := { program := "ytipelclohcdkcaagreat", sum := "845cf96c208b3a6c3be07855cab06d8b3fd495091edd2f87cd836cffc2a664f6", func := "parquetry/parquetrylaw13.LookFaces", spec := "lookFaces", inPlace := ["sync/atomic.AddInt64", "sync/atomic.LoadUint32", "(*internal/sync.Mutex).Lock", "internal/race.Disable", "sync/atomic.CompareAndSwapInt32", "internal/race.Enable", "internal/race.Acquire", "(*internal/sync.Mutex).lockSlow", "internal/sync.runtime_canSpin", "internal/sync.runtime_doSpin", "internal/sync.throw", "internal/sync.runtime_nanotime", "internal/sync.runtime_SemacquireMutex", "sync/atomic.AddInt32", "(*internal/sync.Mutex).Unlock", "internal/race.ReleaseMerge", "(*internal/sync.Mutex).unlockSlow", "internal/sync.fatal", "internal/sync.runtime_Semrelease", "sync/atomic.StoreUint32"], unfollowed := true, recurses := true, apart := false, narrowed := true }
def LookFacesUptoSaid : Prop := lookFacesUptoRow.holds Tryz.pinned (OpenSpec.upto lookFacesSpec)

/-- 'parquetrylaw13.LookDarts', WHERE WHAT IT READS IS OF BULK AT MOST 1048576: true; the input reads as it did. -/
def lookDartsUptoRow : OpenClaim := { program := "ytipelclohcdkcaagreat", sum := "845cf96c208b3a6c3be07855cab06d8b3fd495091edd2f87cd836cffc2a664f6", func := "parquetry/parquetrylaw13.LookDarts", spec := "lookDarts", inPlace := ["sync/atomic.AddInt64", "sync/atomic.LoadUint32", "(*internal/sync.Mutex).Lock", "internal/race.Disable", "sync/atomic.CompareAndSwapInt32", "internal/race.Enable", "internal/race.Acquire", "(*internal/sync.Mutex).lockSlow", "internal/sync.runtime_canSpin", "internal/sync.runtime_doSpin", "internal/sync.throw", "internal/sync.runtime_nanotime", "internal/sync.runtime_SemacquireMutex", "sync/atomic.AddInt32", "(*internal/sync.Mutex).Unlock", "internal/race.ReleaseMerge", "(*internal/sync.Mutex).unlockSlow", "internal/sync.fatal", "internal/sync.runtime_Semrelease", "sync/atomic.StoreUint32"], unfollowed := true, recurses := true, apart := false, narrowed := true }
def LookDartsUptoSaid : Prop := lookDartsUptoRow.holds Tryz.pinned (OpenSpec.upto lookDartsSpec)

/-- 'parquetrylaw13.LookAsks', WHERE WHAT IT READS IS OF BULK AT MOST 1048576: true; the input reads as it did. -/
def lookAsksUptoRow : OpenClaim := { program := "ytipelclohcdkcaagreat", sum := "845cf96c208b3a6c3be07855cab06d8b3fd495091edd2f87cd836cffc2a664f6", func := "parquetry/parquetrylaw13.LookAsks", spec := "lookAsks", inPlace := ["sync/atomic.AddInt64", "sync/atomic.LoadUint32", "(*internal/sync.Mutex).Lock", "internal/race.Disable", "sync/atomic.CompareAndSwapInt32", "internal/race.Enable", "internal/race.Acquire", "(*internal/sync.Mutex).lockSlow", "internal/sync.runtime_canSpin", "internal/sync.runtime_doSpin", "internal/sync.throw", "internal/sync.runtime_nanotime", "internal/sync.runtime_SemacquireMutex", "sync/atomic.AddInt32", "(*internal/sync.Mutex).Unlock", "internal/race.ReleaseMerge", "(*internal/sync.Mutex).unlockSlow", "internal/sync.fatal", "internal/sync.runtime_Semrelease", "sync/atomic.StoreUint32", "sync/atomic.LoadInt64"], unfollowed := true, recurses := true, apart := false, narrowed := true }
def LookAsksUptoSaid : Prop := lookAsksUptoRow.holds Tryz.pinned (OpenSpec.upto lookAsksSpec)

/-- 'parquetrylaw12.TuranCounts', WHERE WHAT IT READS IS OF BULK AT MOST 1048576: true; the input reads as it did. -/
def turanCountsUptoRow : OpenClaim := { program := "ytipelclohcdkcaagreat", sum := "845cf96c208b3a6c3be07855cab06d8b3fd495091edd2f87cd836cffc2a664f6", func := "parquetry/parquetrylaw12.TuranCounts", spec := "turanCounts", inPlace := ["sync/atomic.LoadUint32", "(*internal/sync.Mutex).Lock", "internal/race.Disable", "sync/atomic.CompareAndSwapInt32", "internal/race.Enable", "internal/race.Acquire", "(*internal/sync.Mutex).lockSlow", "internal/sync.runtime_canSpin", "internal/sync.runtime_doSpin", "internal/sync.throw", "internal/sync.runtime_nanotime", "internal/sync.runtime_SemacquireMutex", "sync/atomic.AddInt32", "(*internal/sync.Mutex).Unlock", "internal/race.ReleaseMerge", "(*internal/sync.Mutex).unlockSlow", "internal/sync.fatal", "internal/sync.runtime_Semrelease", "sync/atomic.StoreUint32", "internal/bytealg.IndexByteString", "internal/abi.NoEscape", "sync/atomic.AddInt64"], unfollowed := true, recurses := true, apart := false, narrowed := true }
def TuranCountsUptoSaid : Prop := turanCountsUptoRow.holds Tryz.pinned (OpenSpec.upto turanCountsSpec)

/-- 'parquetrylaw12.TuranNames', WHERE WHAT IT READS IS OF BULK AT MOST 1048576: true; the input reads as it did. -/
def turanNamesUptoRow : OpenClaim := { program := "ytipelclohcdkcaagreat", sum := "845cf96c208b3a6c3be07855cab06d8b3fd495091edd2f87cd836cffc2a664f6", func := "parquetry/parquetrylaw12.TuranNames", spec := "turanNames", inPlace := ["sync/atomic.LoadUint32", "(*internal/sync.Mutex).Lock", "internal/race.Disable", "sync/atomic.CompareAndSwapInt32", "internal/race.Enable", "internal/race.Acquire", "(*internal/sync.Mutex).lockSlow", "internal/sync.runtime_canSpin", "internal/sync.runtime_doSpin", "internal/sync.throw", "internal/sync.runtime_nanotime", "internal/sync.runtime_SemacquireMutex", "sync/atomic.AddInt32", "(*internal/sync.Mutex).Unlock", "internal/race.ReleaseMerge", "(*internal/sync.Mutex).unlockSlow", "internal/sync.fatal", "internal/sync.runtime_Semrelease", "sync/atomic.StoreUint32", "internal/bytealg.IndexByteString", "internal/abi.NoEscape", "sync/atomic.AddInt64"], unfollowed := true, recurses := true, apart := false, narrowed := true }
def TuranNamesUptoSaid : Prop := turanNamesUptoRow.holds Tryz.pinned (OpenSpec.upto turanNamesSpec)

/-- 'parquetrylaw12.TuranNil', WHERE WHAT IT READS IS OF BULK AT MOST 1048576: true; the input reads as it did. -/
def turanNilUptoRow : OpenClaim := { program := "ytipelclohcdkcaagreat", sum := "845cf96c208b3a6c3be07855cab06d8b3fd495091edd2f87cd836cffc2a664f6", func := "parquetry/parquetrylaw12.TuranNil", spec := "turanNil", inPlace := ["sync/atomic.LoadUint32", "(*internal/sync.Mutex).Lock", "internal/race.Disable", "sync/atomic.CompareAndSwapInt32", "internal/race.Enable", "internal/race.Acquire", "(*internal/sync.Mutex).lockSlow", "internal/sync.runtime_canSpin", "internal/sync.runtime_doSpin", "internal/sync.throw", "internal/sync.runtime_nanotime", "internal/sync.runtime_SemacquireMutex", "sync/atomic.AddInt32", "(*internal/sync.Mutex).Unlock", "internal/race.ReleaseMerge", "(*internal/sync.Mutex).unlockSlow", "internal/sync.fatal", "internal/sync.runtime_Semrelease", "sync/atomic.StoreUint32", "internal/bytealg.IndexByteString", "internal/abi.NoEscape", "sync/atomic.AddInt64"], unfollowed := true, recurses := true, apart := false, narrowed := true }
def TuranNilUptoSaid : Prop := turanNilUptoRow.holds Tryz.pinned (OpenSpec.upto turanNilSpec)

/-- 'parquetrylaw12.TuranJoins', WHERE WHAT IT READS IS OF BULK AT MOST 1048576: true; the input reads as it did. -/
def turanJoinsUptoRow : OpenClaim := { program := "ytipelclohcdkcaagreat", sum := "845cf96c208b3a6c3be07855cab06d8b3fd495091edd2f87cd836cffc2a664f6", func := "parquetry/parquetrylaw12.TuranJoins", spec := "turanJoins", inPlace := ["sync/atomic.LoadUint32", "(*internal/sync.Mutex).Lock", "internal/race.Disable", "sync/atomic.CompareAndSwapInt32", "internal/race.Enable", "internal/race.Acquire", "(*internal/sync.Mutex).lockSlow", "internal/sync.runtime_canSpin", "internal/sync.runtime_doSpin", "internal/sync.throw", "internal/sync.runtime_nanotime", "internal/sync.runtime_SemacquireMutex", "sync/atomic.AddInt32", "(*internal/sync.Mutex).Unlock", "internal/race.ReleaseMerge", "(*internal/sync.Mutex).unlockSlow", "internal/sync.fatal", "internal/sync.runtime_Semrelease", "sync/atomic.StoreUint32", "internal/bytealg.IndexByteString", "internal/abi.NoEscape", "sync/atomic.AddInt64"], unfollowed := true, recurses := true, apart := false, narrowed := true }
def TuranJoinsUptoSaid : Prop := turanJoinsUptoRow.holds Tryz.pinned (OpenSpec.upto turanJoinsSpec)

/-- 'parquetrylaw12.TuranWords', WHERE WHAT IT READS IS OF BULK AT MOST 1048576: true; the input reads as it did. -/
def turanWordsUptoRow : OpenClaim := { program := "ytipelclohcdkcaagreat", sum := "845cf96c208b3a6c3be07855cab06d8b3fd495091edd2f87cd836cffc2a664f6", func := "parquetry/parquetrylaw12.TuranWords", spec := "turanWords", inPlace := ["sync/atomic.LoadUint32", "(*internal/sync.Mutex).Lock", "internal/race.Disable", "sync/atomic.CompareAndSwapInt32", "internal/race.Enable", "internal/race.Acquire", "(*internal/sync.Mutex).lockSlow", "internal/sync.runtime_canSpin", "internal/sync.runtime_doSpin", "internal/sync.throw", "internal/sync.runtime_nanotime", "internal/sync.runtime_SemacquireMutex", "sync/atomic.AddInt32", "(*internal/sync.Mutex).Unlock", "internal/race.ReleaseMerge", "(*internal/sync.Mutex).unlockSlow", "internal/sync.fatal", "internal/sync.runtime_Semrelease", "sync/atomic.StoreUint32", "internal/bytealg.IndexByteString", "internal/abi.NoEscape", "sync/atomic.AddInt64"], unfollowed := true, recurses := true, apart := false, narrowed := true }
def TuranWordsUptoSaid : Prop := turanWordsUptoRow.holds Tryz.pinned (OpenSpec.upto turanWordsSpec)

/-- 'parquetrylaw12.TuranCodes', WHERE WHAT IT READS IS OF BULK AT MOST 1048576: true; the input reads as it did. -/
def turanCodesUptoRow : OpenClaim := { program := "ytipelclohcdkcaagreat", sum := "845cf96c208b3a6c3be07855cab06d8b3fd495091edd2f87cd836cffc2a664f6", func := "parquetry/parquetrylaw12.TuranCodes", spec := "turanCodes", inPlace := ["sync/atomic.LoadUint32", "(*internal/sync.Mutex).Lock", "internal/race.Disable", "sync/atomic.CompareAndSwapInt32", "internal/race.Enable", "internal/race.Acquire", "(*internal/sync.Mutex).lockSlow", "internal/sync.runtime_canSpin", "internal/sync.runtime_doSpin", "internal/sync.throw", "internal/sync.runtime_nanotime", "internal/sync.runtime_SemacquireMutex", "sync/atomic.AddInt32", "(*internal/sync.Mutex).Unlock", "internal/race.ReleaseMerge", "(*internal/sync.Mutex).unlockSlow", "internal/sync.fatal", "internal/sync.runtime_Semrelease", "sync/atomic.StoreUint32", "internal/bytealg.IndexByteString", "internal/abi.NoEscape", "sync/atomic.AddInt64"], unfollowed := true, recurses := true, apart := false, narrowed := true }
def TuranCodesUptoSaid : Prop := turanCodesUptoRow.holds Tryz.pinned (OpenSpec.upto turanCodesSpec)

/-- 'parquetrylaw13.LookSame', WHERE WHAT IT READS IS OF BULK AT MOST 1048576: true; the input reads as it did. -/
def lookSameUptoRow : OpenClaim := { program := "ytipelclohcdkcaagreat", sum := "845cf96c208b3a6c3be07855cab06d8b3fd495091edd2f87cd836cffc2a664f6", func := "parquetry/parquetrylaw13.LookSame", spec := "lookSame", inPlace := ["sync/atomic.AddInt64", "sync/atomic.LoadUint32", "(*internal/sync.Mutex).Lock", "internal/race.Disable", "sync/atomic.CompareAndSwapInt32", "internal/race.Enable", "internal/race.Acquire", "(*internal/sync.Mutex).lockSlow", "internal/sync.runtime_canSpin", "internal/sync.runtime_doSpin", "internal/sync.throw", "internal/sync.runtime_nanotime", "internal/sync.runtime_SemacquireMutex", "sync/atomic.AddInt32", "(*internal/sync.Mutex).Unlock", "internal/race.ReleaseMerge", "(*internal/sync.Mutex).unlockSlow", "internal/sync.fatal", "internal/sync.runtime_Semrelease", "sync/atomic.StoreUint32"], unfollowed := true, recurses := true, apart := false, narrowed := true }
def LookSameUptoSaid : Prop := lookSameUptoRow.holds Tryz.pinned (OpenSpec.upto lookSameSpec)

end Rows
end Go.Proofs.YtipelclohcdkcaaGreat
