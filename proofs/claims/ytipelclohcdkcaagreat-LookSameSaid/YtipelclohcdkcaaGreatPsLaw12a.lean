/- law12.TuranNames: the names of a map's word. -/
import Derived.Test.YtipelclohcdkcaaGreatPsEx12
import Derived.Test.YtipelclohcdkcaaGreatPsPlane
namespace Go.Proofs.YtipelclohcdkcaaGreat
open Go.RowKit

/-- A map that the document made is made of its turns. -/
theorem new_plane {ks : List Nat} (hW : Wd ks) (hl : ks.length ≤ 100000) {rt : Int} (hrt : ∃ r : Nat, rt = if ks.length = 0 then -1 else ((r % ks.length : Nat) : Int)) {ln : Nat} (hln : ln = if ks.length = 0 then 1 else 0) {sv : Value} {W : World} (hs : Sl .i64 W sv (nats (decL ks))) :
    Calls Tryz.prog 63 #[sv, .int .i64 rt, .int .i64 ln] W (MadeMap W (decL ks) rt ln) := by
  by_cases h0 : ks.length = 0
  · have hks : ks = [] := List.eq_nil_of_length_eq_zero h0
    have hr : rt = -1 := by
      obtain ⟨r, h⟩ := hrt
      rw [h, if_pos h0]
    subst hr
    have hd : decL ks = [] := by rw [hks]; rfl
    rw [hd] at hs ⊢
    exact new_none sv ln W hs (by rw [hln]; split <;> omega)
  · obtain ⟨r, hr, hrl⟩ : ∃ r : Nat, rt = r ∧ r < ks.length := by
      obtain ⟨r, h⟩ := hrt
      exact ⟨r % ks.length, by rw [h, if_neg h0], Nat.mod_lt _ (by omega)⟩
    subst hr
    have hl2 := decL_length ks
    exact new_some sv (decL ks) r ln W hs hW.decL_isP (by rw [hl2]; exact hW.even2) (by rw [hl2]; exact hrl) (by omega) (by rw [hln]; split <;> omega)

end Go.Proofs.YtipelclohcdkcaaGreat
