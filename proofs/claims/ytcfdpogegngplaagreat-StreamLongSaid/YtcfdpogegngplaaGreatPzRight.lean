/- turan.right, turan.Check: a word's index, if it is a map's. -/
import Derived.Test.YtcfdpogegngplaaGreatPzTexts
namespace Go.Proofs.YtcfdpogegngplaaGreat
open Go.RowKit

/-- No letter of the second sort closes behind a pair that closes first. -/
def CanonOk (ks : List Nat) : Prop := ∀ (i m : Nat) (r : Int), ks[i]? = some 3 → MixMate ks i m → OwnerOf ks i r → ¬ (m : Int) < r

def CanonTo (ks : List Nat) (n : Nat) : Prop := ∀ (i m : Nat) (r : Int), i < n → ks[i]? = some 3 → MixMate ks i m → OwnerOf ks i r → ¬ (m : Int) < r

theorem CanonTo.zero (ks : List Nat) : CanonTo ks 0 := fun i _ _ h => by omega
theorem CanonTo.skip {ks : List Nat} {n k : Nat} (h : CanonTo ks n) (hk : ks[n]? = some k) (h3 : ¬ k = 3) : CanonTo ks (n + 1) := fun i m r hi hx hm hr => by
  rcases Nat.lt_or_ge i n with h1 | h1
  · exact h i m r h1 hx hm hr
  · obtain rfl : i = n := by omega
    rw [hk] at hx
    exact absurd (Option.some.inj hx) h3
theorem CanonTo.step {ks : List Nat} {n m : Nat} {r : Int} (h : CanonTo ks n) (hm : MixMate ks n m) (hr : OwnerOf ks n r) (hle : ¬ (m : Int) < r) : CanonTo ks (n + 1) := fun i m' r' hi hx hm' hr' => by
  rcases Nat.lt_or_ge i n with h1 | h1
  · exact h i m' r' h1 hx hm' hr'
  · obtain rfl : i = n := by omega
    rw [← hm.unique hm', ← hr.unique hr']
    exact hle
theorem CanonTo.all {ks : List Nat} {n : Nat} (h : CanonTo ks n) (hn : ks.length ≤ n) : CanonOk ks := fun i m r hx hm hr => h i m r (Nat.lt_of_lt_of_le (lt_of_get hx) hn) hx hm hr

end Go.Proofs.YtcfdpogegngplaaGreat
