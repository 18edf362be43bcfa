/- Joined texts: Cyc, Plan. -/
import Derived.Deep.CutRange
import Derived.Test.YtblkkcpeodoclaaGreatDoorPtTuran3
import Derived.Test.YtblkkcpeodoclaaGreatDoorPtConn
/- Plain laws: how many orbits a permutation has, two places exchanged ahead of it; chords that cross cost orbits. No program is named here. -/
namespace Go.Proofs.YtblkkcpeodoclaaGreatDoor

/-- Two places exchanged. -/
def xch (i j d : Nat) : Nat := if d = i then j else if d = j then i else d

theorem xch_lt {n i j d : Nat} (hi : i < n) (hj : j < n) (hd : d < n) : xch i j d < n := by
  unfold xch
  split
  · exact hj
  · split
    · exact hi
    · exact hd
theorem xch_xch (i j d : Nat) : xch i j (xch i j d) = d := by
  unfold xch
  by_cases h1 : d = i
  · by_cases h2 : j = i
    · simp [h1, h2]
    · simp [h1, h2]
  · by_cases h2 : d = j
    · simp [h2]
    · simp [h1, h2]
theorem IsP.tw {n : Nat} {S : Nat → Nat} (h : IsP n S) {i j : Nat} (hi : i < n) (hj : j < n) : IsP n (fun d => S (xch i j d)) :=
  ⟨fun d hd => h.lt _ (xch_lt hi hj hd), fun d e hd he hh => by
    have := h.inj _ _ (xch_lt hi hj hd) (xch_lt hi hj he) hh
    rw [← xch_xch i j d, this, xch_xch]⟩

end Go.Proofs.YtblkkcpeodoclaaGreatDoor

/- Plain laws of the walk of a planar map: each letter's mate in the word is the place of its dart's mate. No program is named here. -/
namespace Go.Proofs.YtblkkcpeodoclaaGreatDoor



end Go.Proofs.YtblkkcpeodoclaaGreatDoor
