/- Joined texts: Ex, Awake12. -/
import Derived.Test.YtipelclohcdkcaaGreatPsVx
import Derived.Test.YtipelclohcdkcaaGreatPsRight
import Derived.Test.YtipelclohcdkcaaGreatPsTurans
import Derived.Test.YtipelclohcdkcaaGreatPsDecWk
import Derived.Test.YtipelclohcdkcaaGreatPsTexts
/- The document's example of a word, and its map. No program is named here. -/
namespace Go.Proofs.YtipelclohcdkcaaGreat

def exW : List Nat := [0, 0, 2, 1, 1, 3]

theorem exW_right : WRight exW := by
  have hD : ∀ p, p < 7 → 0 ≤ DD exW p := by decide
  have hB : ∀ p, p < 7 → 0 ≤ BB exW p := by decide
  refine { k4 := by decide, dpos := fun p hp => hD p (by simp [exW] at hp; omega), bpos := fun p hp => hB p (by simp [exW] at hp; omega), right := fun i hi o ho => ?_, dend := by decide, bend := by decide }
  have hil := lt_of_get hi
  have h5 : i = 5 := by
    have : ∀ i, i < 6 → exW[i]? = some 3 → i = 5 := by decide
    exact this i hil hi
  subst h5
  have h1 := ho.hit
  have h2 := hD o (by have := ho.lt; omega)
  rw [show DD exW 5 = 0 by decide] at h1
  omega

theorem exW_wd : Wd exW := ⟨exW_right.k4, exW_right.bal⟩
theorem exW_canon : CanonOk exW := fun _ _ _ h1 h2 h3 => exW_right.check h1 h2 h3

theorem exW_mp2 : mp exW 2 = 5 := by
  refine exW_wd.mp_pair (s := 1) ⟨by decide, by decide, by decide, by decide, by decide, ?_⟩
  intro p h1 h2
  have : ∀ p, p < 6 → 2 < p → ex (ownB 1 exW) (pr 1 exW 2) < ex (ownB 1 exW) (pr 1 exW p) := by decide
  exact this p (by omega) h1

theorem exW_mp5 : mp exW 5 = 2 := by
  have := exW_wd.mp_mp (i := 2) (by decide)
  rwa [exW_mp2] at this

end Go.Proofs.YtipelclohcdkcaaGreat

/- law12.awake: the document's examples. -/
namespace Go.Proofs.YtipelclohcdkcaaGreat
open Go.RowKit

theorem WordAt.len {w : World} {b : Nat} {v : Value} {ks : List Nat} (h : WordAt w b v ks) : ks.length ≤ 9223372036854775807 := by
  obtain ⟨_, h1, h2⟩ := h
  rcases h2 with ⟨_, h0⟩ | ⟨g, cap, cur, _, _, _, hn, hm, _⟩
  · omega
  · unfold maxLen at hm; omega

end Go.Proofs.YtipelclohcdkcaaGreat
