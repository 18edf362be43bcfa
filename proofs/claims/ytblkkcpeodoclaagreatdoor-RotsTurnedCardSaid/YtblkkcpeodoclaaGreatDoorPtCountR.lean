/- Plain: a text's lines, counted; how long a small map's text is. -/
import Derived.Test.YtblkkcpeodoclaaGreatDoorPtCountP
import Derived.Test.YtblkkcpeodoclaaGreatDoorPtRots10
import Derived.Test.YtblkkcpeodoclaaGreatDoorPtBuf4
namespace Go.Proofs.YtblkkcpeodoclaaGreatDoor

theorem u8s_natsB (t : List UInt8) : u8s (natsB t) = t := by
  unfold u8s natsB
  rw [List.map_map]
  conv => rhs; rw [← List.map_id t]
  apply List.map_congr_left
  intro b _
  exact UInt8.ofNat_toNat

theorem natsB_len (t : List UInt8) : (natsB t).length = t.length := by unfold natsB; rw [List.length_map]

theorem body_len2 {n : Nat} {S : Nat → Nat} (h : IsP n S) (hn : n ≤ 131072) : ∀ i, i ≤ n → (bodyB S i).length ≤ (22 * n + 1) * i
  | 0, _ => by simp [bodyB_zero]
  | i + 1, hi => by
    have h1 := body_len2 h hn i (by omega)
    rw [bodyB_succ, List.length_append, Nat.mul_succ]
    split
    · have h2 := orb_bound h hn (show i < n by omega)
      have h3 := rowB_len h2.2
      omega
    · simp only [List.length_nil]; omega

theorem text_len {s : List Nat} {rt : Int} {ln : Nat} (h : IsP s.length (sg s)) (hn : s.length ≤ 100) (hrt : -1 ≤ rt ∧ rt ≤ 1000) (hln : ln ≤ 65536) : (textB s rt ln).length ≤ 300000 := by
  unfold textB
  rw [List.length_append]
  have h1 := body_len2 h (by omega) s.length (Nat.le_refl _)
  have h2 : (rowB [((s.length / 2 : Nat) : Int), rt, (ln : Int)]).length ≤ 22 * 3 + 1 := rowB_len (by
    intro z hz
    simp only [List.mem_cons, List.not_mem_nil, or_false] at hz
    rcases hz with rfl | rfl | rfl <;> omega)
  have h3 : (22 * s.length + 1) * s.length ≤ (22 * 100 + 1) * 100 := Nat.mul_le_mul (by omega) hn
  omega

end Go.Proofs.YtblkkcpeodoclaaGreatDoor
