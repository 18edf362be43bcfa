/-
  No cell of these rows narrows 'for every input' (looked for: loops, veiled, ifaces, maps, wideKeys, modest, calm, conditions, laid).
  DERIVED. THE GIVEN ROWS OF THIS SEAT. 7 by the template 'for every input the law returns true; each argument reads behind the call as it read before'; 0 by the template 'total and deterministic' (their statements: YtalhcfjcbbkpgaaGreatTotals.lean).
  GIVEN WITH THE SEED: the statements are not yours to turn. If you find one false, say at which input.
  Laid BY PROGRAM, IN A SANDBOX (cutbox-rows.mjs): the forced cells as the released guide's own fill.sh prints them over the translation 16f82fddce7fcdec… (all of the seat's roots in one cut). By AI agents, Wed Nov 11 2026. No macro, syntax, notation, axiom, sorry.
-/
import Derived.Test.YtalhcfjcbbkpgaaGreatChecked
import GoSem.Claim
import GoSem.ClaimJoined
import GoSem.ClaimMapViews
import Derived.JoinedTies
import Derived.KernelRfl
namespace Go.Proofs.YtalhcfjcbbkpgaaGreat
/- THE CELL 'sum', in the pinned program and in every row, IS THE sha256 OF THE DUMP (.gsa) THAT YtalhcfjcbbkpgaaGreatProg.lean LOADS. Nothing in Lean hashes anything: it is a label: what it is worth is what the hold of that sum in a sandbox is worth. -/
noncomputable def Tryz.pinned : Pinned := { name := "ytalhcfjcbbkpgaagreat", sum := "16f82fddce7fcdec1138950e7a9c86294f863e2c5ea17e109358554cc1df6ddc", checked := Tryz.checked }
namespace Rows
def none {H : Type} : Left H := { results := [], args := [] }

/-- 'parquetrylaw21.FileBytes': WHATEVER THE INPUT: true; the input reads as it did. -/
def fileBytesSpec : ChangeSpec := { name := "fileBytes", fn := fun _ => fun
  | [d1, d2, d3, d4] => { results := [.lit (.bool true)], args := [d1, d2, d3, d4] }
  | _ => none }
def fileBytesRow : OpenClaim := { program := "ytalhcfjcbbkpgaagreat", sum := "16f82fddce7fcdec1138950e7a9c86294f863e2c5ea17e109358554cc1df6ddc", func := "parquetry/parquetrylaw21.FileBytes", spec := "fileBytes", inPlace := ["sync/atomic.LoadUint32", "(*internal/sync.Mutex).Lock", "internal/race.Disable", "sync/atomic.CompareAndSwapInt32", "internal/race.Enable", "internal/race.Acquire", "(*internal/sync.Mutex).lockSlow", "internal/sync.runtime_canSpin", "internal/sync.runtime_doSpin", "internal/sync.throw", "internal/sync.runtime_nanotime", "internal/sync.runtime_SemacquireMutex", "sync/atomic.AddInt32", "(*internal/sync.Mutex).Unlock", "internal/race.ReleaseMerge", "(*internal/sync.Mutex).unlockSlow", "internal/sync.fatal", "internal/sync.runtime_Semrelease", "sync/atomic.StoreUint32", "slices.overlaps[int]"], unfollowed := true, recurses := true, plainKeys := false, apart := false }
def FileBytesSaid : Prop := fileBytesRow.holds Tryz.pinned (OpenSpec.ofChange fileBytesSpec)

/-- ITS FALSE NEIGHBOUR: 'it returns false'. Refute it at one input. -/
def fileBytesWrong : ChangeSpec := { name := "fileBytes", fn := fun _ => fun
  | [d1, d2, d3, d4] => { results := [.lit (.bool false)], args := [d1, d2, d3, d4] }
  | _ => none }
def FileBytesWrongFalsely : Prop := fileBytesRow.holds Tryz.pinned (OpenSpec.ofChange fileBytesWrong)

/-- 'parquetrylaw21.FileSizes': WHATEVER THE INPUT: true; the input reads as it did. -/
def fileSizesSpec : ChangeSpec := { name := "fileSizes", fn := fun _ => fun
  | [d1, d2] => { results := [.lit (.bool true)], args := [d1, d2] }
  | _ => none }
def fileSizesRow : OpenClaim := { program := "ytalhcfjcbbkpgaagreat", sum := "16f82fddce7fcdec1138950e7a9c86294f863e2c5ea17e109358554cc1df6ddc", func := "parquetry/parquetrylaw21.FileSizes", spec := "fileSizes", inPlace := ["sync/atomic.LoadUint32", "(*internal/sync.Mutex).Lock", "internal/race.Disable", "sync/atomic.CompareAndSwapInt32", "internal/race.Enable", "internal/race.Acquire", "(*internal/sync.Mutex).lockSlow", "internal/sync.runtime_canSpin", "internal/sync.runtime_doSpin", "internal/sync.throw", "internal/sync.runtime_nanotime", "internal/sync.runtime_SemacquireMutex", "sync/atomic.AddInt32", "(*internal/sync.Mutex).Unlock", "internal/race.ReleaseMerge", "(*internal/sync.Mutex).unlockSlow", "internal/sync.fatal", "internal/sync.runtime_Semrelease", "sync/atomic.StoreUint32", "slices.overlaps[int]"], unfollowed := true, recurses := true, plainKeys := false, apart := false }
def FileSizesSaid : Prop := fileSizesRow.holds Tryz.pinned (OpenSpec.ofChange fileSizesSpec)

/-- ITS FALSE NEIGHBOUR: 'it returns false'. Refute it at one input. -/
def fileSizesWrong : ChangeSpec := { name := "fileSizes", fn := fun _ => fun
  | [d1, d2] => { results := [.lit (.bool false)], args := [d1, d2] }
  | _ => none }
def FileSizesWrongFalsely : Prop := fileSizesRow.holds Tryz.pinned (OpenSpec.ofChange fileSizesWrong)

/-- 'parquetrylaw21.FileOnce': WHATEVER THE INPUT: true; the input reads as it did. -/
def fileOnceSpec : ChangeSpec := { name := "fileOnce", fn := fun _ => fun
  | [d1, d2, d3, d4] => { results := [.lit (.bool true)], args := [d1, d2, d3, d4] }
  | _ => none }
def fileOnceRow : OpenClaim := { program := "ytalhcfjcbbkpgaagreat", sum := "16f82fddce7fcdec1138950e7a9c86294f863e2c5ea17e109358554cc1df6ddc", func := "parquetry/parquetrylaw21.FileOnce", spec := "fileOnce", inPlace := ["sync/atomic.LoadUint32", "(*internal/sync.Mutex).Lock", "internal/race.Disable", "sync/atomic.CompareAndSwapInt32", "internal/race.Enable", "internal/race.Acquire", "(*internal/sync.Mutex).lockSlow", "internal/sync.runtime_canSpin", "internal/sync.runtime_doSpin", "internal/sync.throw", "internal/sync.runtime_nanotime", "internal/sync.runtime_SemacquireMutex", "sync/atomic.AddInt32", "(*internal/sync.Mutex).Unlock", "internal/race.ReleaseMerge", "(*internal/sync.Mutex).unlockSlow", "internal/sync.fatal", "internal/sync.runtime_Semrelease", "sync/atomic.StoreUint32", "slices.overlaps[int]"], unfollowed := true, recurses := true, plainKeys := false, apart := false }
def FileOnceSaid : Prop := fileOnceRow.holds Tryz.pinned (OpenSpec.ofChange fileOnceSpec)

/-- ITS FALSE NEIGHBOUR: 'it returns false'. Refute it at one input. -/
def fileOnceWrong : ChangeSpec := { name := "fileOnce", fn := fun _ => fun
  | [d1, d2, d3, d4] => { results := [.lit (.bool false)], args := [d1, d2, d3, d4] }
  | _ => none }
def FileOnceWrongFalsely : Prop := fileOnceRow.holds Tryz.pinned (OpenSpec.ofChange fileOnceWrong)

/-- 'parquetrylaw21.FileStrict': WHATEVER THE INPUT: true; the input reads as it did. -/
def fileStrictSpec : ChangeSpec := { name := "fileStrict", fn := fun _ => fun
  | [d1, d2, d3, d4, d5, d6, d7, d8, d9] => { results := [.lit (.bool true)], args := [d1, d2, d3, d4, d5, d6, d7, d8, d9] }
  | _ => none }
def fileStrictRow : OpenClaim := { program := "ytalhcfjcbbkpgaagreat", sum := "16f82fddce7fcdec1138950e7a9c86294f863e2c5ea17e109358554cc1df6ddc", func := "parquetry/parquetrylaw21.FileStrict", spec := "fileStrict", inPlace := ["sync/atomic.LoadUint32", "(*internal/sync.Mutex).Lock", "internal/race.Disable", "sync/atomic.CompareAndSwapInt32", "internal/race.Enable", "internal/race.Acquire", "(*internal/sync.Mutex).lockSlow", "internal/sync.runtime_canSpin", "internal/sync.runtime_doSpin", "internal/sync.throw", "internal/sync.runtime_nanotime", "internal/sync.runtime_SemacquireMutex", "sync/atomic.AddInt32", "(*internal/sync.Mutex).Unlock", "internal/race.ReleaseMerge", "(*internal/sync.Mutex).unlockSlow", "internal/sync.fatal", "internal/sync.runtime_Semrelease", "sync/atomic.StoreUint32", "slices.overlaps[int]", "sync/atomic.AddInt64"], unfollowed := true, recurses := true, plainKeys := false, apart := false }
def FileStrictSaid : Prop := fileStrictRow.holds Tryz.pinned (OpenSpec.ofChange fileStrictSpec)

/-- ITS FALSE NEIGHBOUR: 'it returns false'. Refute it at one input. -/
def fileStrictWrong : ChangeSpec := { name := "fileStrict", fn := fun _ => fun
  | [d1, d2, d3, d4, d5, d6, d7, d8, d9] => { results := [.lit (.bool false)], args := [d1, d2, d3, d4, d5, d6, d7, d8, d9] }
  | _ => none }
def FileStrictWrongFalsely : Prop := fileStrictRow.holds Tryz.pinned (OpenSpec.ofChange fileStrictWrong)

/-- 'parquetrylaw21.FileErrs': WHATEVER THE INPUT: true; the input reads as it did. -/
def fileErrsSpec : ChangeSpec := { name := "fileErrs", fn := fun _ => fun
  | [d1, d2, d3, d4] => { results := [.lit (.bool true)], args := [d1, d2, d3, d4] }
  | _ => none }
def fileErrsRow : OpenClaim := { program := "ytalhcfjcbbkpgaagreat", sum := "16f82fddce7fcdec1138950e7a9c86294f863e2c5ea17e109358554cc1df6ddc", func := "parquetry/parquetrylaw21.FileErrs", spec := "fileErrs", inPlace := ["sync/atomic.LoadUint32", "(*internal/sync.Mutex).Lock", "internal/race.Disable", "sync/atomic.CompareAndSwapInt32", "internal/race.Enable", "internal/race.Acquire", "(*internal/sync.Mutex).lockSlow", "internal/sync.runtime_canSpin", "internal/sync.runtime_doSpin", "internal/sync.throw", "internal/sync.runtime_nanotime", "internal/sync.runtime_SemacquireMutex", "sync/atomic.AddInt32", "(*internal/sync.Mutex).Unlock", "internal/race.ReleaseMerge", "(*internal/sync.Mutex).unlockSlow", "internal/sync.fatal", "internal/sync.runtime_Semrelease", "sync/atomic.StoreUint32", "slices.overlaps[int]", "sync/atomic.AddInt64"], unfollowed := true, recurses := true, plainKeys := false, apart := false }
def FileErrsSaid : Prop := fileErrsRow.holds Tryz.pinned (OpenSpec.ofChange fileErrsSpec)

/-- ITS FALSE NEIGHBOUR: 'it returns false'. Refute it at one input. -/
def fileErrsWrong : ChangeSpec := { name := "fileErrs", fn := fun _ => fun
  | [d1, d2, d3, d4] => { results := [.lit (.bool false)], args := [d1, d2, d3, d4] }
  | _ => none }
def FileErrsWrongFalsely : Prop := fileErrsRow.holds Tryz.pinned (OpenSpec.ofChange fileErrsWrong)

/-- 'parquetrylaw21.FileBack': WHATEVER THE INPUT: true; the input reads as it did. -/
def fileBackSpec : ChangeSpec := { name := "fileBack", fn := fun _ => fun
  | [d1, d2, d3, d4, d5] => { results := [.lit (.bool true)], args := [d1, d2, d3, d4, d5] }
  | _ => none }
def fileBackRow : OpenClaim := { program := "ytalhcfjcbbkpgaagreat", sum := "16f82fddce7fcdec1138950e7a9c86294f863e2c5ea17e109358554cc1df6ddc", func := "parquetry/parquetrylaw21.FileBack", spec := "fileBack", inPlace := ["sync/atomic.LoadUint32", "(*internal/sync.Mutex).Lock", "internal/race.Disable", "sync/atomic.CompareAndSwapInt32", "internal/race.Enable", "internal/race.Acquire", "(*internal/sync.Mutex).lockSlow", "internal/sync.runtime_canSpin", "internal/sync.runtime_doSpin", "internal/sync.throw", "internal/sync.runtime_nanotime", "internal/sync.runtime_SemacquireMutex", "sync/atomic.AddInt32", "(*internal/sync.Mutex).Unlock", "internal/race.ReleaseMerge", "(*internal/sync.Mutex).unlockSlow", "internal/sync.fatal", "internal/sync.runtime_Semrelease", "sync/atomic.StoreUint32", "slices.overlaps[int]", "sync/atomic.AddInt64"], unfollowed := true, recurses := true, plainKeys := false, apart := false }
def FileBackSaid : Prop := fileBackRow.holds Tryz.pinned (OpenSpec.ofChange fileBackSpec)

/-- ITS FALSE NEIGHBOUR: 'it returns false'. Refute it at one input. -/
def fileBackWrong : ChangeSpec := { name := "fileBack", fn := fun _ => fun
  | [d1, d2, d3, d4, d5] => { results := [.lit (.bool false)], args := [d1, d2, d3, d4, d5] }
  | _ => none }
def FileBackWrongFalsely : Prop := fileBackRow.holds Tryz.pinned (OpenSpec.ofChange fileBackWrong)

/-- 'parquetrylaw22.StreamPieces': WHATEVER THE INPUT: true; the input reads as it did. -/
def streamPiecesSpec : ChangeSpec := { name := "streamPieces", fn := fun _ => fun
  | [d1, d2, d3, d4, d5, d6, d7, d8] => { results := [.lit (.bool true)], args := [d1, d2, d3, d4, d5, d6, d7, d8] }
  | _ => none }
def streamPiecesRow : OpenClaim := { program := "ytalhcfjcbbkpgaagreat", sum := "16f82fddce7fcdec1138950e7a9c86294f863e2c5ea17e109358554cc1df6ddc", func := "parquetry/parquetrylaw22.StreamPieces", spec := "streamPieces", inPlace := ["sync/atomic.LoadUint32", "(*internal/sync.Mutex).Lock", "internal/race.Disable", "sync/atomic.CompareAndSwapInt32", "internal/race.Enable", "internal/race.Acquire", "(*internal/sync.Mutex).lockSlow", "internal/sync.runtime_canSpin", "internal/sync.runtime_doSpin", "internal/sync.throw", "internal/sync.runtime_nanotime", "internal/sync.runtime_SemacquireMutex", "sync/atomic.AddInt32", "(*internal/sync.Mutex).Unlock", "internal/race.ReleaseMerge", "(*internal/sync.Mutex).unlockSlow", "internal/sync.fatal", "internal/sync.runtime_Semrelease", "sync/atomic.StoreUint32", "slices.overlaps[int]", "sync/atomic.AddInt64"], unfollowed := true, recurses := true, plainKeys := false, apart := false }
def StreamPiecesSaid : Prop := streamPiecesRow.holds Tryz.pinned (OpenSpec.ofChange streamPiecesSpec)

/-- ITS FALSE NEIGHBOUR: 'it returns false'. Refute it at one input. -/
def streamPiecesWrong : ChangeSpec := { name := "streamPieces", fn := fun _ => fun
  | [d1, d2, d3, d4, d5, d6, d7, d8] => { results := [.lit (.bool false)], args := [d1, d2, d3, d4, d5, d6, d7, d8] }
  | _ => none }
def StreamPiecesWrongFalsely : Prop := streamPiecesRow.holds Tryz.pinned (OpenSpec.ofChange streamPiecesWrong)

/- THE SECOND FORM. 'bulk': how many values and letters a reading holds, each counted each time it is reached (what is shared counts as often as it is met; a slice's spare places count too). A statement '..UptoSaid' is the law's where the arguments, and the package variables that the reading takes, are together of bulk at most 1048576: NARROWER than '..Said'. Prove '..Said' where nothing that the law and all that it calls make is longer than what came in: it says more and counts as full. Else prove '..UptoSaid'. A law counts once. -/
mutual
def uptoBulk {H : Type} : DataW H → Nat
  | .lit (.string bytes) => bytes.length + 1
  | .lit _ => 1
  | .nil => 1
  | .ptr d => uptoBulk d + 1
  | .slice elems spare => uptoBulkAll elems + uptoBulkAll spare + 1
  | .agg parts => uptoBulkAll parts + 1
  | .iface _ d => uptoBulk d + 1
  | .map entries => uptoBulkEntries entries + 1
  | .held _ => 1
def uptoBulkAll {H : Type} : List (DataW H) → Nat
  | [] => 0
  | d :: r => uptoBulk d + uptoBulkAll r
def uptoBulkEntries {H : Type} : List (Lit × DataW H) → Nat
  | [] => 0
  | x :: r => uptoBulkEntry x + uptoBulkEntries r
def uptoBulkEntry {H : Type} : Lit × DataW H → Nat
  | (.string bytes, d) => bytes.length + uptoBulk d + 1
  | (_, d) => uptoBulk d + 1
 end
def uptoSmall : (H : Type) → List (DataW H) → Bool := fun _ ds => decide (uptoBulkAll ds ≤ 1048576)
def OpenSpec.upto (s : _root_.Go.ChangeSpec) : _root_.Go.OpenSpec := { _root_.Go.OpenSpec.ofChange s with cond := some uptoSmall }

/-- 'parquetrylaw21.FileBytes', WHERE WHAT IT READS IS OF BULK AT MOST 1048576: true; the input reads as it did. -/
def fileBytesUptoRow : OpenClaim := { program := "ytalhcfjcbbkpgaagreat", sum := "16f82fddce7fcdec1138950e7a9c86294f863e2c5ea17e109358554cc1df6ddc", func := "parquetry/parquetrylaw21.FileBytes", spec := "fileBytes", inPlace := ["sync/atomic.LoadUint32", "(*internal/sync.Mutex).Lock", "internal/race.Disable", "sync/atomic.CompareAndSwapInt32", "internal/race.Enable", "internal/race.Acquire", "(*internal/sync.Mutex).lockSlow", "internal/sync.runtime_canSpin", "internal/sync.runtime_doSpin", "internal/sync.throw", "internal/sync.runtime_nanotime", "internal/sync.runtime_SemacquireMutex", "sync/atomic.AddInt32", "(*internal/sync.Mutex).Unlock", "internal/race.ReleaseMerge", "(*internal/sync.Mutex).unlockSlow", "internal/sync.fatal", "internal/sync.runtime_Semrelease", "sync/atomic.StoreUint32", "slices.overlaps[int]"], unfollowed := true, recurses := true, plainKeys := false, apart := false, narrowed := true }
def FileBytesUptoSaid : Prop := fileBytesUptoRow.holds Tryz.pinned (OpenSpec.upto fileBytesSpec)

/-- 'parquetrylaw21.FileSizes', WHERE WHAT IT READS IS OF BULK AT MOST 1048576: true; the input reads as it did. -/
def fileSizesUptoRow : OpenClaim := { program := "ytalhcfjcbbkpgaagreat", sum := "16f82fddce7fcdec1138950e7a9c86294f863e2c5ea17e109358554cc1df6ddc", func := "parquetry/parquetrylaw21.FileSizes", spec := "fileSizes", inPlace := ["sync/atomic.LoadUint32", "(*internal/sync.Mutex).Lock", "internal/race.Disable", "sync/atomic.CompareAndSwapInt32", "internal/race.Enable", "internal/race.Acquire", "(*internal/sync.Mutex).lockSlow", "internal/sync.runtime_canSpin", "internal/sync.runtime_doSpin", "internal/sync.throw", "internal/sync.runtime_nanotime", "internal/sync.runtime_SemacquireMutex", "sync/atomic.AddInt32", "(*internal/sync.Mutex).Unlock", "internal/race.ReleaseMerge", "(*internal/sync.Mutex).unlockSlow", "internal/sync.fatal", "internal/sync.runtime_Semrelease", "sync/atomic.StoreUint32", "slices.overlaps[int]"], unfollowed := true, recurses := true, plainKeys := false, apart := false, narrowed := true }
def FileSizesUptoSaid : Prop := fileSizesUptoRow.holds Tryz.pinned (OpenSpec.upto fileSizesSpec)

/-- 'parquetrylaw21.FileOnce', WHERE WHAT IT READS IS OF BULK AT MOST 1048576: true; the input reads as it did. -/
def fileOnceUptoRow : OpenClaim := { program := "ytalhcfjcbbkpgaagreat", sum := "16f82fddce7fcdec1138950e7a9c86294f863e2c5ea17e109358554cc1df6ddc", func := "parquetry/parquetrylaw21.FileOnce", spec := "fileOnce", inPlace := ["sync/atomic.LoadUint32", "(*internal/sync.Mutex).Lock", "internal/race.Disable", "sync/atomic.CompareAndSwapInt32", "internal/race.Enable", "internal/race.Acquire", "(*internal/sync.Mutex).lockSlow", "internal/sync.runtime_canSpin", "internal/sync.runtime_doSpin", "internal/sync.throw", "internal/sync.runtime_nanotime", "internal/sync.runtime_SemacquireMutex", "sync/atomic.AddInt32", "(*internal/sync.Mutex).Unlock", "internal/race.ReleaseMerge", "(*internal/sync.Mutex).unlockSlow", "internal/sync.fatal", "internal/sync.runtime_Semrelease", "sync/atomic.StoreUint32", "slices.overlaps[int]"], unfollowed := true, recurses := true, plainKeys := false, apart := false, narrowed := true }
def FileOnceUptoSaid : Prop := fileOnceUptoRow.holds Tryz.pinned (OpenSpec.upto fileOnceSpec)

/-- 'parquetrylaw21.FileStrict', WHERE WHAT IT READS IS OF BULK AT MOST 1048576: true; the input reads as it did. -/
def fileStrictUptoRow : OpenClaim := { program := "ytalhcfjcbbkpgaagreat", sum := "16f82fddce7fcdec1138950e7a9c86294f863e2c5ea17e109358554cc1df6ddc", func := "parquetry/parquetrylaw21.FileStrict", spec := "fileStrict", inPlace := ["sync/atomic.LoadUint32", "(*internal/sync.Mutex).Lock", "internal/race.Disable", "sync/atomic.CompareAndSwapInt32", "internal/race.Enable", "internal/race.Acquire", "(*internal/sync.Mutex).lockSlow", "internal/sync.runtime_canSpin", "internal/sync.runtime_doSpin", "internal/sync.throw", "internal/sync.runtime_nanotime", "internal/sync.runtime_SemacquireMutex", "sync/atomic.AddInt32", "(*internal/sync.Mutex).Unlock", "internal/race.ReleaseMerge", "(*internal/sync.Mutex).unlockSlow", "internal/sync.fatal", "internal/sync.runtime_Semrelease", "sync/atomic.StoreUint32", "slices.overlaps[int]", "sync/atomic.AddInt64"], unfollowed := true, recurses := true, plainKeys := false, apart := false, narrowed := true }
def FileStrictUptoSaid : Prop := fileStrictUptoRow.holds Tryz.pinned (OpenSpec.upto fileStrictSpec)

/-- 'parquetrylaw21.FileErrs', WHERE WHAT IT READS IS OF BULK AT MOST 1048576: true; the input reads as it did. -/
def fileErrsUptoRow : OpenClaim := { program := "ytalhcfjcbbkpgaagreat", sum := "16f82fddce7fcdec1138950e7a9c86294f863e2c5ea17e109358554cc1df6ddc", func := "parquetry/parquetrylaw21.FileErrs", spec := "fileErrs", inPlace := ["sync/atomic.LoadUint32", "(*internal/sync.Mutex).Lock", "internal/race.Disable", "sync/atomic.CompareAndSwapInt32", "internal/race.Enable", "internal/race.Acquire", "(*internal/sync.Mutex).lockSlow", "internal/sync.runtime_canSpin", "internal/sync.runtime_doSpin", "internal/sync.throw", "internal/sync.runtime_nanotime", "internal/sync.runtime_SemacquireMutex", "sync/atomic.AddInt32", "(*internal/sync.Mutex).Unlock", "internal/race.ReleaseMerge", "(*internal/sync.Mutex).unlockSlow", "internal/sync.fatal", "internal/sync.runtime_Semrelease", "sync/atomic.StoreUint32", "slices.overlaps[int]", "sync/atomic.AddInt64"], unfollowed := true, recurses := true, plainKeys := false, apart := false, narrowed := true }
def FileErrsUptoSaid : Prop := fileErrsUptoRow.holds Tryz.pinned (OpenSpec.upto fileErrsSpec)

/-- 'parquetrylaw21.FileBack', WHERE WHAT IT READS IS OF BULK AT MOST 1048576: true; the input reads as it did. -/
def fileBackUptoRow : OpenClaim := { program := "ytalhcfjcbbkpgaagreat", sum := "16f82fddce7fcdec1138950e7a9c86294f863e2c5ea17e109358554cc1df6ddc", func := "parquetry/parquetrylaw21.FileBack", spec := "fileBack", inPlace := ["sync/atomic.LoadUint32", "(*internal/sync.Mutex).Lock", "internal/race.Disable", "sync/atomic.CompareAndSwapInt32", "internal/race.Enable", "internal/race.Acquire", "(*internal/sync.Mutex).lockSlow", "internal/sync.runtime_canSpin", "internal/sync.runtime_doSpin", "internal/sync.throw", "internal/sync.runtime_nanotime", "internal/sync.runtime_SemacquireMutex", "sync/atomic.AddInt32", "(*internal/sync.Mutex).Unlock", "internal/race.ReleaseMerge", "(*internal/sync.Mutex).unlockSlow", "internal/sync.fatal", "internal/sync.runtime_Semrelease", "sync/atomic.StoreUint32", "slices.overlaps[int]", "sync/atomic.AddInt64"], unfollowed := true, recurses := true, plainKeys := false, apart := false, narrowed := true }
def FileBackUptoSaid : Prop := fileBackUptoRow.holds Tryz.pinned (OpenSpec.upto fileBackSpec)

/-- 'parquetrylaw22.StreamPieces', WHERE WHAT IT READS IS OF BULK AT MOST 1048576: true; the input reads as it did. -/
def streamPiecesUptoRow : OpenClaim := { program := "ytalhcfjcbbkpgaagreat", sum := "16f82fddce7fcdec1138950e7a9c86294f863e2c5ea17e109358554cc1df6ddc", func := "parquetry/parquetrylaw22.StreamPieces", spec := "streamPieces", inPlace := ["sync/atomic.LoadUint32", "(*internal/sync.Mutex).Lock", "internal/race.Disable", "sync/atomic.CompareAndSwapInt32", "internal/race.Enable", "internal/race.Acquire", "(*internal/sync.Mutex).lockSlow", "internal/sync.runtime_canSpin", "internal/sync.runtime_doSpin", "internal/sync.throw", "internal/sync.runtime_nanotime", "internal/sync.runtime_SemacquireMutex", "sync/atomic.AddInt32", "(*internal/sync.Mutex).Unlock", "internal/race.ReleaseMerge", "(*internal/sync.Mutex).unlockSlow", "internal/sync.fatal", "internal/sync.runtime_Semrelease", "sync/atomic.StoreUint32", "slices.overlaps[int]", "sync/atomic.AddInt64"], unfollowed := true, recurses := true, plainKeys := false, apart := false, narrowed := true }
def StreamPiecesUptoSaid : Prop := streamPiecesUptoRow.holds Tryz.pinned (OpenSpec.upto streamPiecesSpec)

end Rows
end Go.Proofs.YtalhcfjcbbkpgaaGreat
