/- mixed.Of. -/
import Derived.Test.YtblkkcpeodoclaaGreatDoorTexts
namespace Go.Proofs.YtblkkcpeodoclaaGreatDoor
open Go.RowKit

/-- Bits as letters, two a letter. -/
def pairK : List Bool → List Nat
  | a :: c :: l => (a.toNat + 2 * c.toNat) :: pairK l
  | _ => []

theorem pairK_length : ∀ l : List Bool, (pairK l).length = l.length / 2
  | [] => rfl
  | [_] => by simp [pairK]
  | a :: c :: l => by
    have := pairK_length l
    simp only [pairK, List.length_cons, this]
    omega

theorem pairK_get : ∀ (l : List Bool) (j : Nat), 2 * j + 1 < l.length → (pairK l)[j]? = some ((l.getD (2 * j) false).toNat + 2 * (l.getD (2 * j + 1) false).toNat)
  | [], j, h => by simp at h
  | [_], j, h => by simp at h
  | a :: c :: l, 0, _ => rfl
  | a :: c :: l, j + 1, h => by
    have := pairK_get l j (by simp at h; omega)
    rw [show 2 * (j + 1) = (2 * j + 1) + 1 by omega]
    simp only [pairK, List.getElem?_cons_succ, this, List.getD_cons_succ]

theorem pairK_lt : ∀ (l : List Bool), ∀ k ∈ pairK l, k < 4
  | [], k, h => by simp [pairK] at h
  | [_], k, h => by simp [pairK] at h
  | a :: c :: l, k, h => by
    simp only [pairK, List.mem_cons] at h
    rcases h with rfl | h
    · cases a <;> cases c <;> decide
    · exact pairK_lt l k h

theorem pairK_wbits (ks : List Nat) (h4 : ∀ k ∈ ks, k < 4) : pairK (wbits ks) = ks := by
  induction ks with
  | nil => rfl
  | cons k ks ih =>
    have hk := h4 k (by simp)
    have ih := ih (fun x hx => h4 x (by simp [hx]))
    have h2 : wbits (k :: ks) = (k % 2 == 1) :: (k / 2 % 2 == 1) :: wbits ks := by simp [wbits, numB, List.range_succ]
    rw [h2]
    simp only [pairK, ih]
    congr 1
    match k, hk with
    | 0, _ => rfl
    | 1, _ => rfl
    | 2, _ => rfl
    | 3, _ => rfl

end Go.Proofs.YtblkkcpeodoclaaGreatDoor
