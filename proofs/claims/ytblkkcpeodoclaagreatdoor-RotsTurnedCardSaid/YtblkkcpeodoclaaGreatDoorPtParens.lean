/- Joined texts: ParPure, Paren, Paren2, Ahead, Behind, ParMate, Over, Make, Par3, Low. -/
import Derived.Deep.RegionHeld3
import Derived.Laws.Rows
import Derived.Laws.OwnMore
import Derived.Test.YtblkkcpeodoclaaGreatDoorPtRanks
/- Plain laws of parentheses: excesses, the least of a run, the tree's nodes; no program is named here. -/
namespace Go.Proofs.YtblkkcpeodoclaaGreatDoor

/-- The excess ahead of a place; behind the last one it stays. -/
def ex (l : List Bool) (p : Nat) : Int := 2 * rk l 1 (min p l.length) - (min p l.length : Nat)

/-! The tree over blocks: 2 ^ h leaves. -/

/-! What is looked for. -/

end Go.Proofs.YtblkkcpeodoclaaGreatDoor

/- The contracts of package paren: what is read off. -/
namespace Go.Proofs.YtblkkcpeodoclaaGreatDoor
open Go.RowKit

end Go.Proofs.YtblkkcpeodoclaaGreatDoor

/- The contracts of package paren: New, Excess, Size, Built, over; nil. -/
namespace Go.Proofs.YtblkkcpeodoclaaGreatDoor
open Go.RowKit

/-! A question's state, told against a world that stays. -/

end Go.Proofs.YtblkkcpeodoclaaGreatDoor

/- The contracts of package paren: the tree as it is read; ahead. -/
namespace Go.Proofs.YtblkkcpeodoclaaGreatDoor
open Go.RowKit

end Go.Proofs.YtblkkcpeodoclaaGreatDoor

/- The contracts of package paren: behind. -/
namespace Go.Proofs.YtblkkcpeodoclaaGreatDoor
open Go.RowKit

end Go.Proofs.YtblkkcpeodoclaaGreatDoor

/- Plain laws of pairs of parentheses. -/
namespace Go.Proofs.YtblkkcpeodoclaaGreatDoor

/-- A pair: i opens, j closes. -/
structure IsPair (l : List Bool) (i j : Nat) : Prop where
  lt : i < j
  le : j < l.length
  hit : ex l (j + 1) = ex l i
  above : ∀ p, i < p → p ≤ j → ex l i < ex l p

/-- The other one of a pair. -/
def MateOf (l : List Bool) (i m : Nat) : Prop := (l.getD i false = true ∧ IsPair l i m) ∨ (l.getD i false = false ∧ IsPair l m i)

/-- The first place from a on that meets a test. -/
theorem first_of (P : Nat → Prop) [DecidablePred P] (a : Nat) : ∀ d, P (a + d) → ∃ n, a ≤ n ∧ n ≤ a + d ∧ P n ∧ ∀ p, a ≤ p → p < n → ¬ P p
  | 0, h => ⟨a, Nat.le_refl _, Nat.le_refl _, h, fun p h1 h2 => by omega⟩
  | d + 1, h => by
    by_cases hc : ∃ e, e ≤ d ∧ P (a + e)
    · obtain ⟨e, he, hp⟩ := hc
      obtain ⟨n, h1, h2, h3, h4⟩ := first_of P a e hp
      exact ⟨n, h1, by omega, h3, h4⟩
    · refine ⟨a + (d + 1), by omega, Nat.le_refl _, h, fun p h1 h2 hp => hc ⟨p - a, by omega, ?_⟩⟩
      rwa [show a + (p - a) = p by omega]
termination_by d => d
decreasing_by all_goals omega

/-! Two behind one another; one within a pair. -/

end Go.Proofs.YtblkkcpeodoclaaGreatDoor

/- The contracts of package paren: over. -/
namespace Go.Proofs.YtblkkcpeodoclaaGreatDoor
open Go.RowKit

end Go.Proofs.YtblkkcpeodoclaaGreatDoor

/- The contract of package paren's make: the tree. -/
namespace Go.Proofs.YtblkkcpeodoclaaGreatDoor
open Go.RowKit

theorem Keeps.cellF {w w' : World} (k : Keeps (fun _ => False) w w') {a : Addr} {v : Value} (h : w.cell? a = some v) : w'.cell? a = some v := by
  rw [World.cell?_of_block (w := w) (k.block a.block (World.block_lt_of_cell? _ _ h) (fun h => h))]
  exact h

end Go.Proofs.YtblkkcpeodoclaaGreatDoor

/- The contracts of package paren: place, Mate, Round. -/
namespace Go.Proofs.YtblkkcpeodoclaaGreatDoor
open Go.RowKit

end Go.Proofs.YtblkkcpeodoclaaGreatDoor

/- The contract of package paren: Low. -/
namespace Go.Proofs.YtblkkcpeodoclaaGreatDoor
open Go.RowKit

end Go.Proofs.YtblkkcpeodoclaaGreatDoor
