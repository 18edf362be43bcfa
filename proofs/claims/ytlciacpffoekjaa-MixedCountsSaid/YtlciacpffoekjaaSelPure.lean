/- Where a bit stands: plain arithmetic. -/
import Derived.Test.YtlciacpffoekjaaRank3
namespace Go.Proofs.Ytlciacpffoekjaa

theorem rk_zero (l : List Bool) (bit : Int) : rk l bit 0 = 0 := by unfold rk ofZ; split <;> simp [cnt]

theorem rk_succ (l : List Bool) (bit : Int) (n : Nat) (hb : bit = 0 ∨ bit = 1) (h : n < l.length) : rk l bit (n + 1) = rk l bit n + (if ((l.getD n false).toNat : Int) = bit then 1 else 0) := by
  have hc := cnt_snoc l n h
  unfold rk ofZ
  rw [hc]
  rcases hb with rfl | rfl
  · cases l.getD n false <;> simp <;> omega
  · cases l.getD n false <;> simp

theorem rk_mono (l : List Bool) (bit : Int) (hb : bit = 0 ∨ bit = 1) (a : Nat) : ∀ d, a + d ≤ l.length → rk l bit a ≤ rk l bit (a + d) := by
  intro d
  induction d with
  | zero => intro _; exact Int.le_refl _
  | succ d ih =>
    intro h
    have h1 := ih (by omega)
    have h2 := rk_succ l bit (a + d) hb (by omega)
    rw [show a + (d + 1) = a + d + 1 by omega, h2]
    split <;> omega

theorem rk_le (l : List Bool) (bit : Int) (hb : bit = 0 ∨ bit = 1) {a c : Nat} (h : a ≤ c) (hc : c ≤ l.length) : rk l bit a ≤ rk l bit c := by
  have := rk_mono l bit hb a (c - a) (by omega)
  rwa [show a + (c - a) = c by omega] at this

theorem rk_bounds (l : List Bool) (bit : Int) (hb : bit = 0 ∨ bit = 1) (n : Nat) (h : n ≤ l.length) : 0 ≤ rk l bit n ∧ rk l bit n ≤ n := by
  induction n with
  | zero => rw [rk_zero]; omega
  | succ n ih =>
    have h1 := ih (by omega)
    have h2 := rk_succ l bit n hb (by omega)
    rw [h2]
    split <;> omega

theorem cnt_take_min (l : List Bool) (n : Nat) : cnt (l.take n) = cnt (l.take (min n l.length)) := by
  by_cases h : n ≤ l.length
  · rw [Nat.min_eq_left h]
  · rw [Nat.min_eq_right (by omega), List.take_of_length_le (by omega), List.take_of_length_le (by omega)]

/-- The test of Select's search. -/
def selP (l : List Bool) (bit k : Int) (i : Nat) : Bool := decide (k < ofZ bit (cnt (l.take (512 * i))) (min (512 * i) l.length : Nat))

theorem selP_rk (l : List Bool) (bit k : Int) (i : Nat) : selP l bit k i = decide (k < rk l bit (min (512 * i) l.length)) := by
  unfold selP rk
  rw [cnt_take_min]

theorem selP_mono (l : List Bool) (bit k : Int) (hb : bit = 0 ∨ bit = 1) (i j : Nat) (hij : i ≤ j) (h : selP l bit k i = true) : selP l bit k j = true := by
  rw [selP_rk] at *
  have h1 := of_decide_eq_true h
  have h2 := rk_le l bit hb (a := min (512 * i) l.length) (c := min (512 * j) l.length) (by omega) (by omega)
  exact decide_eq_true (by omega)

/-- Here a bit stands with so many ahead of it. -/
def IsSel (l : List Bool) (bit k : Int) (n : Nat) : Prop := n < l.length ∧ ((l.getD n false).toNat : Int) = bit ∧ rk l bit n = k

theorem IsSel.unique {l : List Bool} {bit k : Int} (hb : bit = 0 ∨ bit = 1) {a c : Nat} (h1 : IsSel l bit k a) (h2 : IsSel l bit k c) : a = c := by
  rcases Nat.lt_trichotomy a c with h | h | h
  · have h3 := rk_succ l bit a hb h1.1
    rw [if_pos h1.2.1, h1.2.2] at h3
    have h4 := rk_le l bit hb (a := a + 1) (c := c) (by omega) (by have := h2.1; omega)
    rw [h2.2.2] at h4
    omega
  · exact h
  · have h3 := rk_succ l bit c hb h2.1
    rw [if_pos h2.2.1, h2.2.2] at h3
    have h4 := rk_le l bit hb (a := c + 1) (c := a) (by omega) (by have := h1.1; omega)
    rw [h1.2.2] at h4
    omega

/-- What the search has found. -/
theorem sel_block {l : List Bool} {bit k : Int} (h0 : 0 ≤ k) (hk : k < rk l bit l.length) {r : Nat} (h : IsFirst (selP l bit k) ((l.length + 511) / 512 + 1) r) :
    1 ≤ r ∧ r ≤ (l.length + 511) / 512 ∧ 512 * (r - 1) ≤ l.length ∧ rk l bit (512 * (r - 1)) ≤ k := by
  obtain ⟨h1, h2, h3⟩ := h
  have hz : selP l bit k 0 = false := by rw [selP_rk]; simp [rk_zero]; omega
  have hl : selP l bit k ((l.length + 511) / 512) = true := by
    rw [selP_rk, Nat.min_eq_right (by omega)]
    exact decide_eq_true hk
  have r1 : 1 ≤ r := by
    rcases Nat.eq_zero_or_pos r with rfl | h
    · rw [h3 (by omega)] at hz; cases hz
    · exact h
  have r2 : r ≤ (l.length + 511) / 512 := by
    rcases Nat.lt_or_ge ((l.length + 511) / 512) r with h | h
    · rw [h2 _ h] at hl; cases hl
    · exact h
  have r3 := h2 (r - 1) (by omega)
  rw [selP_rk] at r3
  have r4 := of_decide_eq_false r3
  rw [Nat.min_eq_left (by omega)] at r4
  exact ⟨r1, r2, by omega, by omega⟩

end Go.Proofs.Ytlciacpffoekjaa
