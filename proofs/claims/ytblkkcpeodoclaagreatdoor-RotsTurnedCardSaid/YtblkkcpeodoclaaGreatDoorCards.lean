/-
  DERIVED. GIVEN WITH THE SEED: THE CARDS: each row of YtblkkcpeodoclaaGreatDoorRows.lean that lists a variable, with what it lists TIED to the program's text (the seventh form; the later family's looks); each row that meets fmt, with fmt's text TOLD by the authors' own Lean function (tested against real Go, not proved from fmt's source: count such statements apart). THE CARD IS WHAT COUNTS. Prove the row's statement (the work); the ties are given (YtblkkcpeodoclaaGreatDoorTie.lean); close each card by the builder's one call (the guide's Derived/Test/ToyasCard.lean, 'card_holds'). Laid BY PROGRAM, IN A SANDBOX (cutbox-door.mjs). By AI agents, Wed Nov 11 2026. No macro, syntax, notation, axiom, sorry.
-/
import Derived.Test.YtblkkcpeodoclaaGreatDoorRows
import GoSem.ClaimSeven
namespace Go.Proofs.YtblkkcpeodoclaaGreatDoor
namespace Rows

/-- THE TIED CARD OF 'parquetrylaw07.RotsCounts'. -/
def rotsCountsCard : Claim7 := { stood := { row := rotsCountsRow, standIns := [], harness := (true, "ec25a5312194d4f44c3f08dc8e66b1f9408585de4f690e3ee2854ca8283ba446"), looks := true }, kinds := [], alts := [], laidByText := true, laidKinds := [.data, .data, .data, .data, .sentinel, .sentinel, .sentinel, .pinned], laidTests := true, laidLooks := .later }
def RotsCountsCardSaid : Prop := Claim7.holds Tryz.pinned (.plain (OpenSpec.ofChange rotsCountsSpec)) rotsCountsCard

/-- THE TIED CARD OF 'parquetrylaw07.RotsTurned'. -/
def rotsTurnedCard : Claim7 := { stood := { row := rotsTurnedRow, standIns := [], harness := (true, "ec25a5312194d4f44c3f08dc8e66b1f9408585de4f690e3ee2854ca8283ba446"), looks := true }, kinds := [], alts := [], laidByText := true, laidKinds := [.data, .data, .data, .data, .sentinel, .sentinel, .sentinel, .pinned], laidTests := true, laidLooks := .later }
def RotsTurnedCardSaid : Prop := Claim7.holds Tryz.pinned (.plain (OpenSpec.ofChange rotsTurnedSpec)) rotsTurnedCard

/-- THE TIED CARD OF 'parquetrylaw07.RotsNil'. -/
def rotsNilCard : Claim7 := { stood := { row := rotsNilRow, standIns := [], harness := (true, "ec25a5312194d4f44c3f08dc8e66b1f9408585de4f690e3ee2854ca8283ba446"), looks := true }, kinds := [], alts := [], laidByText := true, laidKinds := [.data, .data, .data, .data, .sentinel, .sentinel, .sentinel, .pinned], laidTests := true, laidLooks := .later }
def RotsNilCardSaid : Prop := Claim7.holds Tryz.pinned (.plain (OpenSpec.ofChange rotsNilSpec)) rotsNilCard

/-- THE TIED CARD OF 'parquetrylaw07.RotsPrints'. -/
def rotsPrintsCard : Claim7 := { stood := { row := rotsPrintsRow, standIns := [], harness := (true, "ec25a5312194d4f44c3f08dc8e66b1f9408585de4f690e3ee2854ca8283ba446"), looks := true }, kinds := [], alts := [], laidByText := true, laidKinds := [.data, .data, .data, .data, .sentinel, .sentinel, .sentinel, .pinned], laidTests := true, laidLooks := .later }
def RotsPrintsCardSaid : Prop := Claim7.holds Tryz.pinned (.plain (OpenSpec.ofChange rotsPrintsSpec)) rotsPrintsCard

/-- THE SECOND FORM's CARD OF 'parquetrylaw07.RotsCounts'. -/
def rotsCountsUptoCard : Claim7 := { stood := { row := rotsCountsUptoRow, standIns := [], harness := (true, "ec25a5312194d4f44c3f08dc8e66b1f9408585de4f690e3ee2854ca8283ba446"), looks := true }, kinds := [], alts := [], laidByText := true, laidKinds := [.data, .data, .data, .data, .sentinel, .sentinel, .sentinel, .pinned], laidTests := true, laidLooks := .later }
def RotsCountsUptoCardSaid : Prop := Claim7.holds Tryz.pinned (.plain (OpenSpec.upto rotsCountsSpec)) rotsCountsUptoCard

/-- THE SECOND FORM's CARD OF 'parquetrylaw07.RotsTurned'. -/
def rotsTurnedUptoCard : Claim7 := { stood := { row := rotsTurnedUptoRow, standIns := [], harness := (true, "ec25a5312194d4f44c3f08dc8e66b1f9408585de4f690e3ee2854ca8283ba446"), looks := true }, kinds := [], alts := [], laidByText := true, laidKinds := [.data, .data, .data, .data, .sentinel, .sentinel, .sentinel, .pinned], laidTests := true, laidLooks := .later }
def RotsTurnedUptoCardSaid : Prop := Claim7.holds Tryz.pinned (.plain (OpenSpec.upto rotsTurnedSpec)) rotsTurnedUptoCard

/-- THE SECOND FORM's CARD OF 'parquetrylaw07.RotsNil'. -/
def rotsNilUptoCard : Claim7 := { stood := { row := rotsNilUptoRow, standIns := [], harness := (true, "ec25a5312194d4f44c3f08dc8e66b1f9408585de4f690e3ee2854ca8283ba446"), looks := true }, kinds := [], alts := [], laidByText := true, laidKinds := [.data, .data, .data, .data, .sentinel, .sentinel, .sentinel, .pinned], laidTests := true, laidLooks := .later }
def RotsNilUptoCardSaid : Prop := Claim7.holds Tryz.pinned (.plain (OpenSpec.upto rotsNilSpec)) rotsNilUptoCard

/-- THE SECOND FORM's CARD OF 'parquetrylaw07.RotsPrints'. -/
def rotsPrintsUptoCard : Claim7 := { stood := { row := rotsPrintsUptoRow, standIns := [], harness := (true, "ec25a5312194d4f44c3f08dc8e66b1f9408585de4f690e3ee2854ca8283ba446"), looks := true }, kinds := [], alts := [], laidByText := true, laidKinds := [.data, .data, .data, .data, .sentinel, .sentinel, .sentinel, .pinned], laidTests := true, laidLooks := .later }
def RotsPrintsUptoCardSaid : Prop := Claim7.holds Tryz.pinned (.plain (OpenSpec.upto rotsPrintsSpec)) rotsPrintsUptoCard
end Rows
end Go.Proofs.YtblkkcpeodoclaaGreatDoor
