/- Plain: a text's lines, counted; how long a small map's text is. -/
import Derived.Test.YtblkkcpeodoclaaGreatDoorPpCountP
import Derived.Test.YtblkkcpeodoclaaGreatDoorPpRots10
import Derived.Test.YtblkkcpeodoclaaGreatDoorPpBuf4
namespace Go.Proofs.YtblkkcpeodoclaaGreatDoor

theorem cut_count (c : UInt8) : ∀ l : List UInt8, (cutB c l).length = l.count c + 1
  | [] => rfl
  | b :: l => by
    have ih := cut_count c l
    have hne := cutB_ne c l
    unfold cutB
    split
    · rename_i e
      rw [List.length_cons, ih, e, List.count_cons_self]
    · rename_i e
      cases hx : cutB c l with
      | nil => exact absurd hx hne
      | cons x xs =>
        rw [hx] at ih
        rw [List.count_cons_of_ne (by simpa using e)]
        exact ih

theorem natsB_count (t : List UInt8) : (natsB t).count 10 = t.count 10 := by
  unfold natsB
  induction t with
  | nil => rfl
  | cons b l ih =>
    rw [List.map_cons, List.count_cons, List.count_cons, ih]
    congr 1
    have : (b.toNat == 10) = (b == 10) := by
      rw [Bool.eq_iff_iff, beq_iff_eq, beq_iff_eq]
      constructor
      · intro h; exact UInt8.toNat_inj.1 h
      · rintro rfl; rfl
    rw [this]

theorem GoodK.lines {t : List UInt8} {s : List Nat} {rt : Int} {ln k : Nat} (h : GoodK t s rt ln k) : t.count 10 = k := by
  obtain ⟨_, a, ls, ⟨xs, hx, _, hr⟩, hk, _⟩ := h
  have h1 := cut_count 10 t
  rw [hx, List.length_append, ← hr.1] at h1
  simp at h1
  omega

theorem u8s_natsB (t : List UInt8) : u8s (natsB t) = t := by
  unfold u8s natsB
  rw [List.map_map]
  conv => rhs; rw [← List.map_id t]
  apply List.map_congr_left
  intro b _
  exact UInt8.ofNat_toNat

theorem natsB_lt (t : List UInt8) : ∀ b ∈ natsB t, b < 256 := by
  intro b hb
  unfold natsB at hb
  obtain ⟨x, _, rfl⟩ := List.mem_map.1 hb
  exact x.toNat_lt

theorem natsB_len (t : List UInt8) : (natsB t).length = t.length := by unfold natsB; rw [List.length_map]

theorem body_len2 {n : Nat} {S : Nat → Nat} (h : IsP n S) (hn : n ≤ 131072) : ∀ i, i ≤ n → (bodyB S i).length ≤ (22 * n + 1) * i
  | 0, _ => by simp [bodyB_zero]
  | i + 1, hi => by
    have h1 := body_len2 h hn i (by omega)
    rw [bodyB_succ, List.length_append, Nat.mul_succ]
    split
    · have h2 := orb_bound h hn (show i < n by omega)
      have h3 := rowB_len h2.2
      omega
    · simp only [List.length_nil]; omega

theorem text_len {s : List Nat} {rt : Int} {ln : Nat} (h : IsP s.length (sg s)) (hn : s.length ≤ 100) (hrt : -1 ≤ rt ∧ rt ≤ 1000) (hln : ln ≤ 65536) : (textB s rt ln).length ≤ 300000 := by
  unfold textB
  rw [List.length_append]
  have h1 := body_len2 h (by omega) s.length (Nat.le_refl _)
  have h2 : (rowB [((s.length / 2 : Nat) : Int), rt, (ln : Int)]).length ≤ 22 * 3 + 1 := rowB_len (by
    intro z hz
    simp only [List.mem_cons, List.not_mem_nil, or_false] at hz
    rcases hz with rfl | rfl | rfl <;> omega)
  have h3 : (22 * s.length + 1) * s.length ≤ (22 * 100 + 1) * 100 := Nat.mul_le_mul (by omega) hn
  omega

end Go.Proofs.YtblkkcpeodoclaaGreatDoor
