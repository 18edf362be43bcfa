/- The document's example of a word, and its map. No program is named here. -/
import Derived.Test.YtipelclohcdkcaaGreatVx
import Derived.Test.YtipelclohcdkcaaGreatRight
namespace Go.Proofs.YtipelclohcdkcaaGreat

def exW : List Nat := [0, 0, 2, 1, 1, 3]

theorem exW_right : WRight exW := by
  have hD : ∀ p, p < 7 → 0 ≤ DD exW p := by decide
  have hB : ∀ p, p < 7 → 0 ≤ BB exW p := by decide
  refine { k4 := by decide, dpos := fun p hp => hD p (by simp [exW] at hp; omega), bpos := fun p hp => hB p (by simp [exW] at hp; omega), right := fun i hi o ho => ?_, dend := by decide, bend := by decide }
  have hil := lt_of_get hi
  have h5 : i = 5 := by
    have : ∀ i, i < 6 → exW[i]? = some 3 → i = 5 := by decide
    exact this i hil hi
  subst h5
  have h1 := ho.hit
  have h2 := hD o (by have := ho.lt; omega)
  rw [show DD exW 5 = 0 by decide] at h1
  omega

theorem exW_wd : Wd exW := ⟨exW_right.k4, exW_right.bal⟩
theorem exW_canon : CanonOk exW := fun _ _ _ h1 h2 h3 => exW_right.check h1 h2 h3

theorem exW_mp2 : mp exW 2 = 5 := by
  refine exW_wd.mp_pair (s := 1) ⟨by decide, by decide, by decide, by decide, by decide, ?_⟩
  intro p h1 h2
  have : ∀ p, p < 6 → 2 < p → ex (ownB 1 exW) (pr 1 exW 2) < ex (ownB 1 exW) (pr 1 exW p) := by decide
  exact this p (by omega) h1

theorem exW_mp5 : mp exW 5 = 2 := by
  have := exW_wd.mp_mp (i := 2) (by decide)
  rwa [exW_mp2] at this

theorem exW_mp0 : mp exW 0 = 4 := by
  refine exW_wd.mp_pair (s := 0) ⟨by decide, by decide, by decide, by decide, by decide, ?_⟩
  intro p h1 h2
  have : ∀ p, p < 5 → 0 < p → ex (ownB 0 exW) (pr 0 exW 0) < ex (ownB 0 exW) (pr 0 exW p) := by decide
  exact this p (by omega) h1

theorem exW_mp1 : mp exW 1 = 3 := by
  refine exW_wd.mp_pair (s := 0) ⟨by decide, by decide, by decide, by decide, by decide, ?_⟩
  intro p h1 h2
  have : ∀ p, p < 4 → 1 < p → ex (ownB 0 exW) (pr 0 exW 1) < ex (ownB 0 exW) (pr 0 exW p) := by decide
  exact this p (by omega) h1

theorem exW_mp4 : mp exW 4 = 0 := by
  have := exW_wd.mp_mp (i := 0) (by decide)
  rwa [exW_mp0] at this

theorem exW_mp3 : mp exW 3 = 1 := by
  have := exW_wd.mp_mp (i := 1) (by decide)
  rwa [exW_mp1] at this

theorem exW_nm : nmD exW 0 = 0 ∧ nmD exW 1 = 2 ∧ nmD exW 2 = 4 ∧ nmD exW 3 = 3 ∧ nmD exW 4 = 1 ∧ nmD exW 5 = 5 := by
  unfold nmD
  rw [exW_mp0, exW_mp1, exW_mp2, exW_mp3, exW_mp4, exW_mp5]
  decide

theorem exW_tn : tn exW 0 = 5 ∧ tn exW 1 = 4 ∧ tn exW 2 = 3 ∧ tn exW 3 = 2 ∧ tn exW 4 = 1 ∧ tn exW 5 = 0 := by
  unfold tn
  rw [exW_mp0, exW_mp1, exW_mp2, exW_mp3, exW_mp4, exW_mp5]
  decide

theorem exW_dec : decL exW = [5, 2, 1, 4, 3, 0] := by
  obtain ⟨n0, n1, n2, n3, n4, n5⟩ := exW_nm
  obtain ⟨t0, t1, t2, t3, t4, t5⟩ := exW_tn
  have s0 := exW_wd.sD_nm (i := 0) (by decide)
  have s1 := exW_wd.sD_nm (i := 1) (by decide)
  have s2 := exW_wd.sD_nm (i := 2) (by decide)
  have s3 := exW_wd.sD_nm (i := 3) (by decide)
  have s4 := exW_wd.sD_nm (i := 4) (by decide)
  have s5 := exW_wd.sD_nm (i := 5) (by decide)
  rw [n0, t0, n5] at s0
  rw [n1, t1, n4] at s1
  rw [n2, t2, n3] at s2
  rw [n3, t3, n2] at s3
  rw [n4, t4, n1] at s4
  rw [n5, t5, n0] at s5
  show [sD exW 0, sD exW 1, sD exW 2, sD exW 3, sD exW 4, sD exW 5] = _
  rw [s0, s1, s2, s3, s4, s5]

/-- The document's other example: balanced, but of no map. -/
def badW : List Nat := [2, 0, 3, 1]

end Go.Proofs.YtipelclohcdkcaaGreat
