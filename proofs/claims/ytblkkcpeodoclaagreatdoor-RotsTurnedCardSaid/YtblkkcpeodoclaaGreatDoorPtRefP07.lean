/- ref07.Print. -/
import Derived.Test.YtblkkcpeodoclaaGreatDoorPtDec07
import Derived.Test.YtblkkcpeodoclaaGreatDoorPtConn
namespace Go.Proofs.YtblkkcpeodoclaaGreatDoor
open Go.RowKit

theorem joinB_snoc (c : UInt8) (y : List UInt8) : ∀ {xs : List (List UInt8)}, xs ≠ [] → joinB c (xs ++ [y]) = joinB c xs ++ c :: y
  | [], h => absurd rfl h
  | [x], _ => rfl
  | x :: z :: r, _ => by
    have ih := joinB_snoc c y (xs := z :: r) (by simp)
    show x ++ c :: joinB c ((z :: r) ++ [y]) = (x ++ c :: joinB c (z :: r)) ++ c :: y
    rw [ih]
    simp

end Go.Proofs.YtblkkcpeodoclaaGreatDoor
