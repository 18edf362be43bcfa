/- The references of layers 8 and 12: Genus; Encode. -/
import Derived.Test.YtblkkcpeodoclaaGreatDoorWalk9b
namespace Go.Proofs.YtblkkcpeodoclaaGreatDoor
open Go.RowKit

/-- The genus of all parts. -/
def genS (ps : List (List Int)) : Int := (ps.map fun p => p.getD 4 0).sum

theorem genS_succ {ps : List (List Int)} {j : Nat} {p : List Int} (h : ps[j]? = some p) : genS (ps.take (j + 1)) = genS (ps.take j) + p.getD 4 0 := by
  unfold genS
  rw [take_get h, List.map_append, List.sum_append]
  simp

/-- Rows of five numbers, the last one not great. -/
def Row5 (ps : List (List Int)) : Prop := ∀ p ∈ ps, ∃ z0 z1 z2 z3 z4 : Int, p = [z0, z1, z2, z3, z4] ∧ -9000000 ≤ z4 ∧ z4 ≤ 9000000

theorem genS_bound {ps : List (List Int)} (h : Row5 ps) : ∀ j, j ≤ ps.length → -9000000 * (j : Int) ≤ genS (ps.take j) ∧ genS (ps.take j) ≤ 9000000 * (j : Int) := by
  intro j
  induction j with
  | zero => intro _; simp [genS]
  | succ j ih =>
    intro hj
    obtain ⟨h1, h2⟩ := ih (by omega)
    have hp := List.getElem?_eq_getElem (l := ps) (i := j) (by omega)
    rw [genS_succ hp]
    obtain ⟨z0, z1, z2, z3, z4, he, h3, h4⟩ := h _ (List.mem_of_getElem? hp)
    rw [he]
    simp only [List.getD_cons_succ, List.getD_cons_zero]
    omega

theorem partsA_row5 (s : List Nat) (hl : s.length ≤ 1000000) (lone : Nat) : Row5 (partsA s lone) := by
  intro p hp
  rcases List.mem_append.1 hp with hp | hp
  · obtain ⟨d, _, rfl⟩ := List.mem_map.1 hp
    have h1 := ofN_le s (cnL s) (cnum s.length (sg s) d) s.length
    have h2 := ofN_le (phiL s) (cnL s) (cnum s.length (sg s) d) s.length
    have h3 := cntN_le (cnL s) (cnum s.length (sg s) d) s.length
    refine ⟨_, _, _, _, _, rfl, ?_⟩
    unfold ptG ptV ptB ptE
    exact tdiv2_bound (M := 9000000) (by omega) (by omega)
  · obtain ⟨_, rfl⟩ := List.mem_replicate.1 hp
    exact ⟨_, _, _, _, _, rfl, by decide, by decide⟩

theorem partsA_length (s : List Nat) (lone : Nat) : (partsA s lone).length = cldr s.length (sg s) s.length + lone := by
  unfold partsA; rw [List.length_append, partsL_length, List.length_replicate]

/-- What Encode says of a map. -/
def EncR (s : List Nat) (lone : Nat) (rt : Int) (ks : List Nat) (c : Nat) : Prop :=
  (cldr s.length (sg s) s.length + lone ≠ 1 ∧ c = 8 ∧ ks = []) ∨
  (cldr s.length (sg s) s.length + lone = 1 ∧ genS (partsA s lone) ≠ 0 ∧ c = 7 ∧ ks = []) ∨
  (cldr s.length (sg s) s.length + lone = 1 ∧ genS (partsA s lone) = 0 ∧ c = 0 ∧ s.length = 0 ∧ ks = []) ∨
  (cldr s.length (sg s) s.length + lone = 1 ∧ genS (partsA s lone) = 0 ∧ c = 0 ∧ ∃ root T : Nat, rt = root ∧ root < s.length ∧ WkEnd s.length (sg s) (vnum (sg s)) root T ∧ ks = kso (wlk (sg s) (vnum (sg s)) root T).2)

end Go.Proofs.YtblkkcpeodoclaaGreatDoor
