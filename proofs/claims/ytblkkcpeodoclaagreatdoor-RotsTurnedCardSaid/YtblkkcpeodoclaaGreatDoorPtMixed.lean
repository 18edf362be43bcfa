/- Joined texts: Word, MixPure, Mix, Mix2, Mix3, Mix4, Lab, Index, Parse. -/
import Derived.Laws.StandIn
import Derived.Lib.Bytealg
import Derived.Test.YtblkkcpeodoclaaGreatDoorPtRef3
import Derived.Test.YtblkkcpeodoclaaGreatDoorPtParens
/- The contracts of package mixed: words. -/
namespace Go.Proofs.YtblkkcpeodoclaaGreatDoor
open Go.RowKit

end Go.Proofs.YtblkkcpeodoclaaGreatDoor

/- Plain laws of words of two sorts. -/
namespace Go.Proofs.YtblkkcpeodoclaaGreatDoor

def ownB (s : Nat) (ks : List Nat) : List Bool := (ks.filter fun k => k / 2 == s).map fun k => k % 2 == 0
/-- How many of a sort ahead of a place. -/
def pr (s : Nat) (ks : List Nat) (n : Nat) : Nat := ((ks.take n).filter fun k => k / 2 == s).length
theorem lt_of_get {α : Type} {l : List α} {i : Nat} {x : α} (h : l[i]? = some x) : i < l.length := by
  rcases Nat.lt_or_ge i l.length with h' | h'
  · exact h'
  · rw [List.getElem?_eq_none h'] at h; cases h

theorem take_get {α : Type} {l : List α} {i : Nat} {x : α} (h : l[i]? = some x) : l.take (i + 1) = l.take i ++ [x] := by
  have hi := lt_of_get h
  rw [List.getElem?_eq_getElem hi] at h
  simp only [Option.some.injEq] at h
  rw [List.take_succ_eq_append_getElem hi, h]

/-- The j-th of a sort stands there. -/
def SelAt (s : Nat) (ks : List Nat) (j n : Nat) : Prop := ∃ k, ks[n]? = some k ∧ k / 2 = s ∧ pr s ks n = j

/-- The other one of each one's pair, of its own sort. -/
def MixMate (ks : List Nat) (i m : Nat) : Prop := ∃ s a c, s < 2 ∧ SelAt s ks a i ∧ SelAt s ks c m ∧ MateOf (ownB s ks) a c

/-! Kinds that are counted. -/

end Go.Proofs.YtblkkcpeodoclaaGreatDoor

/- The contracts of package mixed: the index of a word, as it is asked. -/
namespace Go.Proofs.YtblkkcpeodoclaaGreatDoor
open Go.RowKit

end Go.Proofs.YtblkkcpeodoclaaGreatDoor

/- The contracts of package mixed: Mate. -/
namespace Go.Proofs.YtblkkcpeodoclaaGreatDoor
open Go.RowKit

theorem alloc_cell {w : World} {a : Addr} {v : Value} (h : w.cell? a = some v) (o : Obj) : (w.alloc o).cell? a = some v := ((Keeps.refl (fun _ => False) w).alloc o).cellF h
end Go.Proofs.YtblkkcpeodoclaaGreatDoor

/- The contracts of package mixed: Owner, Rank. -/
namespace Go.Proofs.YtblkkcpeodoclaaGreatDoor
open Go.RowKit

end Go.Proofs.YtblkkcpeodoclaaGreatDoor

/- The contracts of package mixed: Rank, Select. -/
namespace Go.Proofs.YtblkkcpeodoclaaGreatDoor
open Go.RowKit



end Go.Proofs.YtblkkcpeodoclaaGreatDoor

/- Blocks by labels: vectors and indexes that grow side by side. -/
namespace Go.Proofs.YtblkkcpeodoclaaGreatDoor
open Go.RowKit

end Go.Proofs.YtblkkcpeodoclaaGreatDoor

/- The contract of package mixed: Index. -/
namespace Go.Proofs.YtblkkcpeodoclaaGreatDoor
open Go.RowKit

end Go.Proofs.YtblkkcpeodoclaaGreatDoor

/- The contracts of package mixed: Parse; of the library: IndexByte. -/
namespace Go.Proofs.YtblkkcpeodoclaaGreatDoor
open Go.RowKit

end Go.Proofs.YtblkkcpeodoclaaGreatDoor
