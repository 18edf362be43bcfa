/- Plain laws of parentheses: excesses, the least of a run, the tree's nodes; no program is named here. -/
import Derived.Test.YtlciacpffoekjaaSelPure
namespace Go.Proofs.Ytlciacpffoekjaa

/-- The excess ahead of a place; behind the last one it stays. -/
def ex (l : List Bool) (p : Nat) : Int := 2 * rk l 1 (min p l.length) - (min p l.length : Nat)

/-- The step at a place. -/
def stepZ (l : List Bool) (p : Nat) : Int := 2 * ((l.getD p false).toNat : Int) - 1

theorem ex_zero (l : List Bool) : ex l 0 = 0 := by simp [ex, rk_zero]

theorem ex_succ (l : List Bool) {p : Nat} (h : p < l.length) : ex l (p + 1) = ex l p + stepZ l p := by
  have := rk_succ l 1 p (.inr rfl) h
  unfold ex stepZ
  rw [Nat.min_eq_left (by omega), Nat.min_eq_left (by omega), this]
  cases l.getD p false <;> simp <;> omega

theorem ex_past (l : List Bool) {p : Nat} (h : l.length ≤ p) : ex l p = ex l l.length := by
  unfold ex; rw [Nat.min_eq_right h, Nat.min_self]

theorem stepZ_cases (l : List Bool) (p : Nat) : stepZ l p = 1 ∨ stepZ l p = -1 := by
  unfold stepZ; cases l.getD p false <;> simp

theorem ex_step (l : List Bool) (p : Nat) : ex l p - 1 ≤ ex l (p + 1) ∧ ex l (p + 1) ≤ ex l p + 1 := by
  by_cases h : p < l.length
  · have h1 := ex_succ l h
    have h2 := stepZ_cases l p
    omega
  · rw [ex_past l (p := p) (by omega), ex_past l (p := p + 1) (by omega)]; omega

theorem ex_bound (l : List Bool) (p : Nat) : -(l.length : Int) ≤ ex l p ∧ ex l p ≤ l.length := by
  have h := rk_bounds l 1 (.inr rfl) (min p l.length) (by omega)
  unfold ex
  omega

/-- The least of a run, from its beginning on. -/
def lowN (l : List Bool) (a : Nat) : Nat → Int
  | 0 => 0
  | m + 1 => min (lowN l a m) (ex l (a + (m + 1)) - ex l a)

theorem lowN_le (l : List Bool) (a : Nat) : ∀ m q, q ≤ m → lowN l a m ≤ ex l (a + q) - ex l a
  | 0, q, h => by obtain rfl : q = 0 := by omega
                  simp [lowN]
  | m + 1, q, h => by
    simp only [lowN]
    by_cases hq : q = m + 1
    · subst hq; omega
    · have := lowN_le l a m q (by omega); omega

theorem lowN_hit (l : List Bool) (a : Nat) : ∀ m, ∃ q, q ≤ m ∧ lowN l a m = ex l (a + q) - ex l a
  | 0 => ⟨0, by omega, by simp [lowN]⟩
  | m + 1 => by
    simp only [lowN]
    obtain ⟨q, h1, h2⟩ := lowN_hit l a m
    rcases Int.le_total (lowN l a m) (ex l (a + (m + 1)) - ex l a) with h | h
    · exact ⟨q, by omega, by omega⟩
    · exact ⟨m + 1, by omega, by omega⟩

theorem lowN_add (l : List Bool) (a m q : Nat) : lowN l a (m + q) = min (lowN l a m) (ex l (a + m) - ex l a + lowN l (a + m) q) := by
  obtain ⟨x, hx, hx2⟩ := lowN_hit l a (m + q)
  obtain ⟨y, hy, hy2⟩ := lowN_hit l a m
  obtain ⟨z, hz, hz2⟩ := lowN_hit l (a + m) q
  have h1 := lowN_le l a (m + q) y (by omega)
  have h2 := lowN_le l a (m + q) (m + z) (by omega)
  rw [show a + (m + z) = a + m + z by omega] at h2
  by_cases hc : x ≤ m
  · have h3 := lowN_le l a m x hc
    omega
  · have h3 := lowN_le l (a + m) q (x - m) (by omega)
    rw [show a + m + (x - m) = a + x by omega] at h3
    omega

theorem lowN_neg (l : List Bool) (a m : Nat) : lowN l a m ≤ 0 := by
  have := lowN_le l a m 0 (Nat.zero_le _); simp at this; exact this

theorem lowN_sum (l : List Bool) (a m : Nat) : lowN l a m ≤ ex l (a + m) - ex l a := lowN_le l a m m (Nat.le_refl _)

theorem lowN_bound (l : List Bool) (a m : Nat) : -(2 * (l.length : Int)) ≤ lowN l a m := by
  obtain ⟨q, _, h⟩ := lowN_hit l a m
  have h1 := ex_bound l (a + q)
  have h2 := ex_bound l a
  omega

/-- How the excess changes behind the last one: not at all. -/
theorem lowN_past (l : List Bool) (a m q : Nat) (h : l.length ≤ a + m) : lowN l a (m + q) = lowN l a m := by
  rw [lowN_add]
  have h1 := lowN_sum l a m
  obtain ⟨z, _, hz⟩ := lowN_hit l (a + m) q
  rw [ex_past l (p := a + m + z) (by omega), ex_past l (p := a + m) (by omega)] at hz
  rw [hz]
  rw [ex_past l (p := a + m) (by omega)] at h1 ⊢
  omega

/-! The tree over blocks: 2 ^ h leaves. -/

def tstart (h k : Nat) : Nat := 512 * ((k - 2 ^ k.log2) * 2 ^ (h - k.log2))
def twidth (h k : Nat) : Nat := 512 * 2 ^ (h - k.log2)
def tsum (l : List Bool) (h k : Nat) : Int := ex l (tstart h k + twidth h k) - ex l (tstart h k)
def tlow (l : List Bool) (h k : Nat) : Int := lowN l (tstart h k) (twidth h k)

theorem log2_two (k : Nat) (h : 1 ≤ k) : (2 * k).log2 = k.log2 + 1 := by
  rw [Nat.log2_def, if_pos (by omega), show 2 * k / 2 = k by omega]
theorem log2_two1 (k : Nat) (h : 1 ≤ k) : (2 * k + 1).log2 = k.log2 + 1 := by
  rw [Nat.log2_def, if_pos (by omega), show (2 * k + 1) / 2 = k by omega]
theorem log2_leaf (h b : Nat) (hb : b < 2 ^ h) : (2 ^ h + b).log2 = h := by
  have hp : 0 < 2 ^ h := Nat.two_pow_pos h
  have h1 : h ≤ (2 ^ h + b).log2 := (Nat.le_log2 (by omega)).2 (by omega)
  have h2 : (2 ^ h + b).log2 < h + 1 := (Nat.log2_lt (by omega)).2 (by rw [Nat.pow_succ]; omega)
  omega

theorem tstart_leaf (h b : Nat) (hb : b < 2 ^ h) : tstart h (2 ^ h + b) = 512 * b := by
  unfold tstart; rw [log2_leaf h b hb]; simp
theorem twidth_leaf (h b : Nat) (hb : b < 2 ^ h) : twidth h (2 ^ h + b) = 512 := by
  unfold twidth; rw [log2_leaf h b hb]; simp
theorem tstart_root (h : Nat) : tstart h 1 = 0 := by simp [tstart, Nat.log2_def]
theorem twidth_root (h : Nat) : twidth h 1 = 512 * 2 ^ h := by simp [twidth, Nat.log2_def]

theorem tkids (h k : Nat) (h1 : 1 ≤ k) (hk : k < 2 ^ h) :
    tstart h (2 * k) = tstart h k ∧ tstart h (2 * k + 1) = tstart h k + twidth h (2 * k) ∧ twidth h (2 * k + 1) = twidth h (2 * k) ∧ twidth h k = twidth h (2 * k) + twidth h (2 * k) := by
  have hd : k.log2 < h := (Nat.log2_lt (by omega)).2 hk
  have hle : 2 ^ k.log2 ≤ k := Nat.log2_self_le (by omega)
  unfold tstart twidth
  rw [log2_two k h1, log2_two1 k h1]
  generalize k.log2 = d at *
  obtain ⟨j, rfl⟩ : ∃ j, h = d + 1 + j := ⟨h - d - 1, by omega⟩
  rw [show d + 1 + j - (d + 1) = j by omega, show d + 1 + j - d = j + 1 by omega]
  rw [Nat.pow_succ 2 d, Nat.pow_succ 2 j]
  rw [show 2 * k - 2 ^ d * 2 = 2 * (k - 2 ^ d) by omega, show 2 * k + 1 - 2 ^ d * 2 = 2 * (k - 2 ^ d) + 1 by omega]
  generalize k - 2 ^ d = x
  generalize 2 ^ j = y
  have e1 : 2 * x * y = x * (y * 2) := by rw [Nat.mul_comm 2 x, Nat.mul_assoc, Nat.mul_comm 2 y]
  have e2 : (2 * x + 1) * y = x * (y * 2) + y := by rw [Nat.add_mul, e1, Nat.one_mul]
  rw [e1, e2]
  exact ⟨rfl, by omega, rfl, by omega⟩

theorem tsum_kids (l : List Bool) (h k : Nat) (h1 : 1 ≤ k) (hk : k < 2 ^ h) : tsum l h k = tsum l h (2 * k) + tsum l h (2 * k + 1) := by
  obtain ⟨a, b, c, d⟩ := tkids h k h1 hk
  unfold tsum
  rw [a, b, c, d, ← Nat.add_assoc]
  omega

theorem tlow_kids (l : List Bool) (h k : Nat) (h1 : 1 ≤ k) (hk : k < 2 ^ h) : tlow l h k = min (tlow l h (2 * k)) (tsum l h (2 * k) + tlow l h (2 * k + 1)) := by
  obtain ⟨a, b, c, d⟩ := tkids h k h1 hk
  unfold tlow tsum
  rw [a, b, c, d, lowN_add]

/-- One up from an odd one: the same end. -/
theorem tup (h k : Nat) (h2 : 2 ≤ k) (hk : k < 2 * 2 ^ h) (ho : k % 2 = 1) : tstart h (k / 2) + twidth h (k / 2) = tstart h k + twidth h k := by
  obtain ⟨a, b, c, d⟩ := tkids h (k / 2) (by omega) (by omega)
  rw [show 2 * (k / 2) + 1 = k by omega] at b c
  rw [b, c, d]; omega

/-- Right from an even one. -/
theorem tright (h k : Nat) (h2 : 2 ≤ k) (hk : k < 2 * 2 ^ h) (ho : k % 2 = 0) : tstart h (k + 1) = tstart h k + twidth h k := by
  obtain ⟨a, b, c, d⟩ := tkids h (k / 2) (by omega) (by omega)
  rw [show 2 * (k / 2) = k by omega] at a b c d
  rw [b, a]

theorem twidth_pos (h k : Nat) : 512 ≤ twidth h k := by
  have := Nat.two_pow_pos (h - k.log2); unfold twidth; omega

theorem tsum_bound (l : List Bool) (h k : Nat) : -(2 * (l.length : Int)) ≤ tsum l h k ∧ tsum l h k ≤ 2 * l.length := by
  have h1 := ex_bound l (tstart h k)
  have h2 := ex_bound l (tstart h k + twidth h k)
  unfold tsum; omega

theorem tlow_bound (l : List Bool) (h k : Nat) : -(2 * (l.length : Int)) ≤ tlow l h k ∧ tlow l h k ≤ 0 := ⟨lowN_bound _ _ _, lowN_neg _ _ _⟩

/-! What is looked for. -/

/-- The first place behind i whose excess is below that of i. -/
structure IsAhead (l : List Bool) (i T : Nat) : Prop where
  lt : i < T
  le : T ≤ l.length
  hit : ex l T = ex l i - 1
  above : ∀ p, i ≤ p → p < T → ex l i ≤ ex l p

theorem IsAhead.iff {l : List Bool} {i T p : Nat} (h : IsAhead l i T) (h1 : i ≤ p) (h2 : p ≤ T) : ex l p = ex l i - 1 ↔ p = T := by
  constructor
  · intro hp
    by_cases hT : p < T
    · have := h.above p h1 hT; omega
    · omega
  · rintro rfl; exact h.hit

/-- A node that stays above is passed by. -/
theorem IsAhead.pass {l : List Bool} {i T a m : Nat} (h : IsAhead l i T) (h1 : i ≤ a) : (ex l a + lowN l a m > ex l i - 1 → a + m < T ∨ T < a) ∧ (¬ ex l a + lowN l a m > ex l i - 1 → T ≤ a + m) := by
  constructor
  · intro hp
    by_cases hT : a ≤ T ∧ T ≤ a + m
    · have := lowN_le l a m (T - a) (by omega)
      rw [show a + (T - a) = T by omega, h.hit] at this
      omega
    · omega
  · intro hp
    obtain ⟨q, h2, h3⟩ := lowN_hit l a m
    by_cases hT : a + q < T
    · have := h.above (a + q) (by omega) hT; omega
    · omega

/-- The last place ahead of i whose excess is so great; between, it is above. -/
structure IsBehind (l : List Bool) (i : Nat) (want : Int) (B : Nat) : Prop where
  lt : B < i
  le : i ≤ l.length
  hit : ex l B = want
  above : ∀ p, B < p → p ≤ i → want < ex l p

theorem IsBehind.iff {l : List Bool} {i B p : Nat} {want : Int} (h : IsBehind l i want B) (h1 : B ≤ p) (h2 : p ≤ i) : ex l p = want ↔ p = B := by
  constructor
  · intro hp
    by_cases hB : B < p
    · have := h.above p hB h2; omega
    · omega
  · rintro rfl; exact h.hit

theorem IsBehind.pass {l : List Bool} {i B a m : Nat} {want : Int} (h : IsBehind l i want B) (h1 : B < a + m) (hp : ¬ ex l a + lowN l a m ≤ want) : B < a := by
  by_cases hB : a ≤ B
  · have := lowN_le l a m (B - a) (by omega)
    rw [show a + (B - a) = B by omega, h.hit] at this
    omega
  · omega

end Go.Proofs.Ytlciacpffoekjaa
