/- look: questions of any number; the document's example. -/
import Derived.Test.YtipelclohcdkcaaGreatPsLook15
import Derived.Test.YtipelclohcdkcaaGreatPsEx12
namespace Go.Proofs.YtipelclohcdkcaaGreat
open Go.RowKit

/-- Each vertex of some letters has a first place. -/
theorem first_ex {ks : List Nat} (hw : Wd ks) (hn : 0 < ks.length) {v : Nat} (hv : v < nvK ks) : ∃ f : Nat, FirstOf ks v f ∧ f < ks.length := by
  rcases Nat.eq_zero_or_pos v with rfl | hv0
  · exact ⟨0, .inr (.inl ⟨hn, rfl, rfl⟩), hn⟩
  · obtain ⟨u, rfl⟩ : ∃ u, v = u + 1 := ⟨v - 1, by omega⟩
    unfold nvK at hv
    obtain ⟨m, h1, h2, h3, h4⟩ := first_of (fun m => u < cntK (ks.take m) 0) 0 ks.length (by show u < cntK (ks.take (0 + ks.length)) 0; rw [Nat.zero_add, List.take_of_length_le (Nat.le_refl _)]; omega)
    obtain ⟨o, rfl⟩ : ∃ o, m = o + 1 := ⟨m - 1, by
      rcases Nat.eq_zero_or_pos m with h | h
      · rw [h] at h3; simp [cntK] at h3
      · omega⟩
    have ho : o < ks.length := by omega
    have h5 := h4 o (by omega) (by omega)
    have hs : SelK ks 0 u o := SelK.found ho (by omega) h3
    exact ⟨o + 1, .inr (.inr ⟨hn, u, o, rfl, hs, rfl⟩), hw.open_next hs.1⟩

/-- A vertex's places from its first one on. -/
theorem Wd.orb_first {ks : List Nat} (hw : Wd ks) {v f : Nat} (hf : FirstOf ks v f) (hfn : f < ks.length) : orb (tn ks) f = pl ks v := by
  refine hw.orb_pl ?_
  rcases hf with ⟨h0, h1⟩ | ⟨h0, rfl, h1⟩ | ⟨h0, u, o, rfl, hs, h1⟩
  · omega
  · obtain rfl : f = 0 := by omega
    exact hw.pl_root h0
  · obtain rfl : f = o + 1 := by omega
    have := hw.pl_open hs.1
    have hvo : vo ks o = u + 1 := by unfold vo; rw [hs.2]
    rw [hvo] at this
    exact this



/-! The document's example. -/

end Go.Proofs.YtipelclohcdkcaaGreat
