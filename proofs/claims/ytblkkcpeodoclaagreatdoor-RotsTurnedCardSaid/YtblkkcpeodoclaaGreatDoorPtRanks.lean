/- Joined texts: Rank, Rank2, Rank3, SelPure, Search, Select, SelOut, Law02a, Law02b, Idx, Ref02. -/
import Derived.Deep.RegionWith
import Derived.Deep.RegionHeld3
import Derived.OpenShut
import Derived.Test.YtblkkcpeodoclaaGreatDoorPtBase
/- The contracts of package rank: the index of a vector. -/
namespace Go.Proofs.YtblkkcpeodoclaaGreatDoor
open Go.RowKit

end Go.Proofs.YtblkkcpeodoclaaGreatDoor

/- The contracts of package rank: the questions. -/
namespace Go.Proofs.YtblkkcpeodoclaaGreatDoor
open Go.RowKit

/-- A footprint, with all blocks that are new. -/
def grow (F : Nat → Prop) (w w' : World) : Nat → Prop := fun k => F k ∨ (w.heap.size ≤ k ∧ k < w'.heap.size)

/-- How many of a bit, of so many of which so many are ones. -/
def ofZ (bit ones all : Int) : Int := if bit = 1 then ones else all - ones

end Go.Proofs.YtblkkcpeodoclaaGreatDoor

/- The contracts of package rank: Rank, and nil indexes. -/
namespace Go.Proofs.YtblkkcpeodoclaaGreatDoor
open Go.RowKit

theorem grow_old {F : Nat → Prop} {w w' : World} (hF : ∀ x, F x → x < w.heap.size) (hs : w.heap.size ≤ w'.heap.size) : ∀ x, grow F w w' x → x < w'.heap.size := by
  rintro x (h | h)
  · exact Nat.lt_of_lt_of_le (hF x h) hs
  · exact h.2

/-- How many of a bit ahead of a place. -/
def rk (l : List Bool) (bit : Int) (n : Nat) : Int := ofZ bit (cnt (l.take n)) n

end Go.Proofs.YtblkkcpeodoclaaGreatDoor

/- Where a bit stands: plain arithmetic. -/
namespace Go.Proofs.YtblkkcpeodoclaaGreatDoor

end Go.Proofs.YtblkkcpeodoclaaGreatDoor

/- The contract of sort.Search, of a test that only reads. -/
namespace Go.Proofs.YtblkkcpeodoclaaGreatDoor
open Go.RowKit

end Go.Proofs.YtblkkcpeodoclaaGreatDoor

/- The contract of package rank's Select. -/
namespace Go.Proofs.YtblkkcpeodoclaaGreatDoor
open Go.RowKit

end Go.Proofs.YtblkkcpeodoclaaGreatDoor

/- The contract of package rank's Select, where it refuses. -/
namespace Go.Proofs.YtblkkcpeodoclaaGreatDoor
open Go.RowKit

end Go.Proofs.YtblkkcpeodoclaaGreatDoor

/- Layer 2's statements: what their helper 'made' makes. -/
namespace Go.Proofs.YtblkkcpeodoclaaGreatDoor
open Go.RowKit

end Go.Proofs.YtblkkcpeodoclaaGreatDoor

/- Layer 2's statements: the document's example. -/
namespace Go.Proofs.YtblkkcpeodoclaaGreatDoor
open Go.RowKit

end Go.Proofs.YtblkkcpeodoclaaGreatDoor

/- The index's contracts, told against a world that stays. -/
namespace Go.Proofs.YtblkkcpeodoclaaGreatDoor
open Go.RowKit



/-- Bytes that came in. -/
theorem RowIn.bytes {w : World} {a : Option Addr} {len cap : Nat} {zs : List Int} (h : RowIn .u8 w a len cap zs) : ∃ ps : List Nat, Sl .u8 w (.slice a len cap) (nats ps) ∧ ∀ b ∈ ps, b < 256 := by
  obtain ⟨h1, _, h3, _⟩ := h.sl
  refine ⟨(zs.take len).map Int.toNat, ?_, ?_⟩
  · have : nats ((zs.take len).map Int.toNat) = zs.take len := by
      unfold nats
      rw [List.map_map]
      conv => rhs; rw [← List.map_id (zs.take len)]
      apply List.map_congr_left
      intro n hn
      have := bounds_u8 (h3 n hn)
      simp
      omega
    rw [this]
    exact h1
  · intro b hb
    obtain ⟨n, hn, rfl⟩ := List.mem_map.1 hb
    have := bounds_u8 (h3 n hn)
    omega

theorem u8_in {n : Int} (h : (Lit.int .u8 n).wf = true) : ∃ m : Nat, n = m ∧ m < 256 := by
  have := bounds_u8 h
  exact ⟨n.toNat, by omega, by omega⟩
end Go.Proofs.YtblkkcpeodoclaaGreatDoor

/- The references of layer 2. -/
namespace Go.Proofs.YtblkkcpeodoclaaGreatDoor
open Go.RowKit

end Go.Proofs.YtblkkcpeodoclaaGreatDoor
