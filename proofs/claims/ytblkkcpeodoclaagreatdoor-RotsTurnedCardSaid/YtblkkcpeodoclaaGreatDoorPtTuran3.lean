/- Plain laws of words as maps: vertices as lists of places. No program is named here. -/
import Derived.Deep.CutRange
import Derived.Test.YtblkkcpeodoclaaGreatDoorPtConn
/- Plain laws of words as maps: mates, turns, names, vertices of places. No program is named here. -/
namespace Go.Proofs.YtblkkcpeodoclaaGreatDoor

/-- The mate of a place. -/
noncomputable def mp (ks : List Nat) (i : Nat) : Nat := open Classical in if h : ∃ m, MixMate ks i m then h.choose else i





/-! Names: the opening ones rise by two, each one's mate is the next. -/

/-- How many open ahead of a place. -/
def oc (ks : List Nat) (i : Nat) : Nat := ((ks.take i).filter fun k => k % 2 == 0).length


/-! Turns around vertices, by places. -/

/-- Which place is next around a vertex. -/
noncomputable def tn (ks : List Nat) (i : Nat) : Nat := ((if ks.getD i 0 < 2 then mp ks i else i) + 1) % ks.length



theorem IsP.congr {n : Nat} {S T : Nat → Nat} (h : IsP n S) (he : ∀ d, d < n → T d = S d) : IsP n T :=
  ⟨fun d hd => by rw [he d hd]; exact h.lt d hd, fun d e hd hen heq => h.inj d e hd hen (by rw [← he d hd, ← he e hen]; exact heq)⟩



end Go.Proofs.YtblkkcpeodoclaaGreatDoor

/- The references of layer 12: names. -/
namespace Go.Proofs.YtblkkcpeodoclaaGreatDoor
open Go.RowKit

end Go.Proofs.YtblkkcpeodoclaaGreatDoor

/- Plain laws of words as maps: the vertex of a place, what is next around it. No program is named here. -/
namespace Go.Proofs.YtblkkcpeodoclaaGreatDoor





end Go.Proofs.YtblkkcpeodoclaaGreatDoor

namespace Go.Proofs.YtblkkcpeodoclaaGreatDoor




end Go.Proofs.YtblkkcpeodoclaaGreatDoor
