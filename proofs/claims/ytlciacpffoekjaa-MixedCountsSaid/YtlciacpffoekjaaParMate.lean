/- Plain laws of pairs of parentheses. -/
import Derived.Test.YtlciacpffoekjaaParen
namespace Go.Proofs.Ytlciacpffoekjaa

theorem ex_cnt (l : List Bool) (p : Nat) : ex l p = 2 * (cnt (l.take p) : Int) - (min p l.length : Nat) := by
  unfold ex rk ofZ
  rw [if_pos rfl, cnt_take_min l p]

theorem ex_append_le (a b : List Bool) {p : Nat} (h : p ≤ a.length) : ex (a ++ b) p = ex a p := by
  rw [ex_cnt, ex_cnt, List.take_append_of_le_length h, List.length_append]
  omega

theorem ex_append_add (a b : List Bool) (q : Nat) : ex (a ++ b) (a.length + q) = ex a a.length + ex b q := by
  rw [ex_cnt, ex_cnt, ex_cnt, List.take_append, List.take_of_length_le (l := a) (i := a.length + q) (by omega), List.take_of_length_le (l := a) (i := a.length) (by omega), show a.length + q - a.length = q by omega, cnt_append, List.length_append]
  omega

theorem bit_ex (l : List Bool) {p : Nat} (h : p < l.length) : ex l (p + 1) = if l.getD p false then ex l p + 1 else ex l p - 1 := by
  rw [ex_succ l h]
  unfold stepZ
  cases l.getD p false <;> simp <;> omega

theorem bit_up (l : List Bool) {p : Nat} (h : p < l.length) (hx : ex l p < ex l (p + 1)) : l.getD p false = true := by
  have := bit_ex l h
  cases hb : l.getD p false with
  | true => rfl
  | false => rw [hb, if_neg (by simp)] at this; omega

theorem bit_down (l : List Bool) {p : Nat} (h : p < l.length) (hx : ex l (p + 1) < ex l p) : l.getD p false = false := by
  have := bit_ex l h
  cases hb : l.getD p false with
  | false => rfl
  | true => rw [hb, if_pos rfl] at this; omega

/-- A pair: i opens, j closes. -/
structure IsPair (l : List Bool) (i j : Nat) : Prop where
  lt : i < j
  le : j < l.length
  hit : ex l (j + 1) = ex l i
  above : ∀ p, i < p → p ≤ j → ex l i < ex l p

theorem IsPair.opens {l : List Bool} {i j : Nat} (h : IsPair l i j) : l.getD i false = true ∧ ex l (i + 1) = ex l i + 1 := by
  have h1 := h.above (i + 1) (by omega) (by have := h.lt; omega)
  have h2 := bit_up l (by have := h.lt; have := h.le; omega) h1
  refine ⟨h2, ?_⟩
  have := bit_ex l (p := i) (by have := h.lt; have := h.le; omega)
  rw [h2, if_pos rfl] at this
  exact this

theorem IsPair.closes {l : List Bool} {i j : Nat} (h : IsPair l i j) : l.getD j false = false ∧ ex l (j + 1) = ex l j - 1 := by
  have h1 := h.above j h.lt (Nat.le_refl _)
  have h3 := h.hit
  have h2 := bit_down l h.le (by omega)
  refine ⟨h2, ?_⟩
  have := bit_ex l h.le
  rw [h2, if_neg (by simp)] at this
  exact this

theorem IsPair.ahead {l : List Bool} {i j : Nat} (h : IsPair l i j) : IsAhead l (i + 1) (j + 1) := by
  have h1 := h.opens.2
  refine ⟨by have := h.lt; omega, h.le, by have := h.hit; omega, fun p h2 h3 => ?_⟩
  have := h.above p (by omega) (by omega)
  omega

theorem IsPair.behind {l : List Bool} {i j : Nat} (h : IsPair l i j) : IsBehind l j (ex l (j + 1)) i :=
  ⟨h.lt, by have := h.le; omega, h.hit.symm, fun p h1 h2 => by rw [h.hit]; exact h.above p h1 h2⟩

theorem IsBehind.unique {l : List Bool} {i : Nat} {want : Int} {B C : Nat} (h : IsBehind l i want B) (k : IsBehind l i want C) : B = C := by
  rcases Nat.lt_trichotomy B C with h1 | h1 | h1
  · have := h.above C h1 (by have := k.lt; omega); have := k.hit; omega
  · exact h1
  · have := k.above B h1 (by have := h.lt; omega); have := h.hit; omega

theorem IsPair.right {l : List Bool} {i j k : Nat} (h : IsPair l i j) (h2 : IsPair l i k) : j = k := by
  have h3 := h.hit
  have h4 := h2.hit
  rcases Nat.lt_trichotomy j k with h1 | h1 | h1
  · have := h2.above (j + 1) (by have := h.lt; omega) h1; omega
  · exact h1
  · have := h.above (k + 1) (by have := h2.lt; omega) h1; omega

theorem IsPair.left {l : List Bool} {i j k : Nat} (h : IsPair l i k) (h2 : IsPair l j k) : i = j := h.behind.unique h2.behind

/-- The other one of a pair. -/
def MateOf (l : List Bool) (i m : Nat) : Prop := (l.getD i false = true ∧ IsPair l i m) ∨ (l.getD i false = false ∧ IsPair l m i)

theorem IsPair.mate_l {l : List Bool} {i j : Nat} (h : IsPair l i j) : MateOf l i j := .inl ⟨h.opens.1, h⟩
theorem IsPair.mate_r {l : List Bool} {i j : Nat} (h : IsPair l i j) : MateOf l j i := .inr ⟨h.closes.1, h⟩

theorem MateOf.symm {l : List Bool} {i m : Nat} (h : MateOf l i m) : MateOf l m i := by
  rcases h with ⟨_, h⟩ | ⟨_, h⟩
  · exact h.mate_r
  · exact h.mate_l

theorem MateOf.lt {l : List Bool} {i m : Nat} (h : MateOf l i m) : m < l.length := by
  rcases h with ⟨_, h⟩ | ⟨_, h⟩
  · exact h.le
  · have := h.lt; have := h.le; omega

theorem MateOf.unique {l : List Bool} {i m n : Nat} (h : MateOf l i m) (k : MateOf l i n) : m = n := by
  rcases h with ⟨h0, h⟩ | ⟨h0, h⟩ <;> rcases k with ⟨k0, k⟩ | ⟨k0, k⟩
  · exact h.right k
  · rw [h0] at k0; cases k0
  · rw [h0] at k0; cases k0
  · exact h.left k

/-- The first place from a on that meets a test. -/
theorem first_of (P : Nat → Prop) [DecidablePred P] (a : Nat) : ∀ d, P (a + d) → ∃ n, a ≤ n ∧ n ≤ a + d ∧ P n ∧ ∀ p, a ≤ p → p < n → ¬ P p
  | 0, h => ⟨a, Nat.le_refl _, Nat.le_refl _, h, fun p h1 h2 => by omega⟩
  | d + 1, h => by
    by_cases hc : ∃ e, e ≤ d ∧ P (a + e)
    · obtain ⟨e, he, hp⟩ := hc
      obtain ⟨n, h1, h2, h3, h4⟩ := first_of P a e hp
      exact ⟨n, h1, by omega, h3, h4⟩
    · refine ⟨a + (d + 1), by omega, Nat.le_refl _, h, fun p h1 h2 hp => hc ⟨p - a, by omega, ?_⟩⟩
      rwa [show a + (p - a) = p by omega]
termination_by d => d
decreasing_by all_goals omega

/-- The last place up to a that meets a test. -/
theorem last_of (P : Nat → Prop) [DecidablePred P] : ∀ a, P 0 → ∃ n, n ≤ a ∧ P n ∧ ∀ p, n < p → p ≤ a → ¬ P p
  | 0, h => ⟨0, Nat.le_refl _, h, fun p h1 h2 => by omega⟩
  | a + 1, h => by
    by_cases hc : P (a + 1)
    · exact ⟨a + 1, Nat.le_refl _, hc, fun p h1 h2 => by omega⟩
    · obtain ⟨n, h1, h2, h3⟩ := last_of P a h
      refine ⟨n, by omega, h2, fun p h4 h5 => ?_⟩
      by_cases hp : p = a + 1
      · rw [hp]; exact hc
      · exact h3 p h4 (by omega)

/-- The last place ahead whose excess is less by one. -/
theorem behind_ex (l : List Bool) (i : Nat) (hi : i ≤ l.length) (hx : 0 < ex l i) (w : Int) (hw : w = ex l i - 1) : ∃ B, IsBehind l i w B := by
  obtain ⟨n, h1, h2, h3⟩ := last_of (fun p => ex l p ≤ w) i (by rw [ex_zero]; omega)
  have hn : n < i := by
    rcases Nat.lt_or_ge n i with h | h
    · exact h
    · obtain rfl : n = i := by omega
      omega
  refine ⟨n, hn, hi, ?_, fun p h4 h5 => by have := h3 p h4 h5; omega⟩
  have h4 := h3 (n + 1) (by omega) hn
  have h5 := ex_step l n
  omega

theorem Bal.mate {l : List Bool} (h : Bal l) {i : Nat} (hi : i < l.length) : ∃ m, MateOf l i m := by
  have hb := bit_ex l hi
  cases hl : l.getD i false with
  | true =>
    rw [hl, if_pos rfl] at hb
    have h0 := h.2 i (by omega)
    obtain ⟨n, h1, h2, h3, h4⟩ := first_of (fun p => ex l p ≤ ex l i) (i + 1) (l.length - (i + 1)) (by
      simp only [show i + 1 + (l.length - (i + 1)) = l.length by omega, h.1]; exact h0)
    have hn : i + 1 < n := by
      rcases Nat.lt_or_ge (i + 1) n with h | h
      · exact h
      · obtain rfl : n = i + 1 := by omega
        omega
    obtain ⟨m, rfl⟩ : ∃ m, n = m + 1 := ⟨n - 1, by omega⟩
    have h5 := h4 m (by omega) (by omega)
    have h6 := ex_step l m
    refine ⟨m, .inl ⟨hl, by omega, by omega, by omega, fun p h7 h8 => by have := h4 p (by omega) (by omega); omega⟩⟩
  | false =>
    rw [hl, if_neg (by simp)] at hb
    have h0 := h.2 (i + 1) (by omega)
    obtain ⟨B, hB⟩ := behind_ex l i (by omega) (by omega) (ex l (i + 1)) (by omega)
    refine ⟨B, .inr ⟨hl, hB.lt, hi, hB.hit.symm, fun p h7 h8 => ?_⟩⟩
    rw [hB.hit]
    exact hB.above p h7 h8

/-- Where the pair around it opens; none: -1. -/
def RoundAt (l : List Bool) (o : Nat) (r : Int) : Prop := (ex l o = 0 ∧ r = -1) ∨ (0 < ex l o ∧ ∃ B : Nat, r = B ∧ IsBehind l o (ex l o - 1) B)
def RoundOf (l : List Bool) (i : Nat) (r : Int) : Prop := (l.getD i false = true ∧ RoundAt l i r) ∨ (l.getD i false = false ∧ ∃ o, IsPair l o i ∧ RoundAt l o r)

theorem RoundAt.unique {l : List Bool} {o : Nat} {r s : Int} (h : RoundAt l o r) (k : RoundAt l o s) : r = s := by
  rcases h with ⟨h0, h⟩ | ⟨h0, B, rfl, h⟩ <;> rcases k with ⟨k0, k⟩ | ⟨k0, C, rfl, k⟩
  · omega
  · omega
  · omega
  · rw [h.unique k]

theorem RoundOf.unique {l : List Bool} {i : Nat} {r s : Int} (h : RoundOf l i r) (k : RoundOf l i s) : r = s := by
  rcases h with ⟨h0, h⟩ | ⟨h0, o, h1, h⟩ <;> rcases k with ⟨k0, k⟩ | ⟨k0, p, k1, k⟩
  · exact h.unique k
  · rw [h0] at k0; cases k0
  · rw [h0] at k0; cases k0
  · rw [h1.left k1] at h; exact h.unique k

theorem Bal.roundAt {l : List Bool} (h : Bal l) {i : Nat} (hi : i ≤ l.length) : ∃ r, RoundAt l i r := by
  have h0 := h.2 i hi
  by_cases hx : ex l i = 0
  · exact ⟨-1, .inl ⟨hx, rfl⟩⟩
  · obtain ⟨B, hB⟩ := behind_ex l i hi (by omega) (ex l i - 1) rfl
    exact ⟨B, .inr ⟨by omega, B, rfl, hB⟩⟩

theorem Bal.round {l : List Bool} (h : Bal l) {i : Nat} (hi : i < l.length) : ∃ r, RoundOf l i r := by
  obtain ⟨m, hm⟩ := h.mate hi
  rcases hm with ⟨h0, hm⟩ | ⟨h0, hm⟩
  · obtain ⟨r, hr⟩ := h.roundAt (i := i) (by omega)
    exact ⟨r, .inl ⟨h0, hr⟩⟩
  · obtain ⟨r, hr⟩ := h.roundAt (i := m) (by have := hm.lt; omega)
    exact ⟨r, .inr ⟨h0, m, hm, hr⟩⟩

/-! Two behind one another; one within a pair. -/

theorem IsPair.inl {a : List Bool} (b : List Bool) {i j : Nat} (h : IsPair a i j) : IsPair (a ++ b) i j := by
  have h1 := h.lt
  have h2 := h.le
  refine ⟨h1, by simp; omega, ?_, fun p h3 h4 => ?_⟩
  · rw [ex_append_le a b h2, ex_append_le a b (by omega)]; exact h.hit
  · rw [ex_append_le a b (p := i) (by omega), ex_append_le a b (p := p) (by omega)]; exact h.above p h3 h4

theorem IsPair.inr (a : List Bool) {b : List Bool} {i j : Nat} (h : IsPair b i j) : IsPair (a ++ b) (a.length + i) (a.length + j) := by
  have h1 := h.lt
  have h2 := h.le
  refine ⟨by omega, by simp; omega, ?_, fun p h3 h4 => ?_⟩
  · rw [Nat.add_assoc, ex_append_add, ex_append_add, h.hit]
  · obtain ⟨q, rfl⟩ : ∃ q, p = a.length + q := ⟨p - a.length, by omega⟩
    rw [ex_append_add, ex_append_add]
    have := h.above q (by omega) (by omega)
    omega

theorem MateOf.inl {a : List Bool} (b : List Bool) {i m : Nat} (h : MateOf a i m) : MateOf (a ++ b) i m := by
  rcases h with ⟨_, h⟩ | ⟨_, h⟩
  · exact (h.inl b).mate_l
  · exact (h.inl b).mate_r

theorem MateOf.inr (a : List Bool) {b : List Bool} {i m : Nat} (h : MateOf b i m) : MateOf (a ++ b) (a.length + i) (a.length + m) := by
  rcases h with ⟨_, h⟩ | ⟨_, h⟩
  · exact (h.inr a).mate_l
  · exact (h.inr a).mate_r

theorem Bal.append {a b : List Bool} (h : Bal a) (k : Bal b) : Bal (a ++ b) := by
  refine ⟨by rw [List.length_append, ex_append_add, h.1, k.1]; rfl, fun p hp => ?_⟩
  rw [List.length_append] at hp
  by_cases hc : p ≤ a.length
  · rw [ex_append_le a b hc]; exact h.2 p hc
  · obtain ⟨q, rfl⟩ : ∃ q, p = a.length + q := ⟨p - a.length, by omega⟩
    rw [ex_append_add, h.1]
    have := k.2 q (by omega)
    omega

theorem ex_cons (a : List Bool) (q : Nat) : ex (true :: a) (q + 1) = 1 + ex a q := by
  have := ex_append_add [true] a q
  rw [show [true].length + q = q + 1 by simp; omega] at this
  rw [show true :: a = [true] ++ a from rfl, this]
  rfl

theorem Bal.wrap {a : List Bool} (h : Bal a) : Bal (true :: a ++ [false]) ∧ IsPair (true :: a ++ [false]) 0 (a.length + 1) := by
  have hl : (true :: a).length = a.length + 1 := by simp
  have e1 : ∀ p, p ≤ a.length + 1 → 0 < p → ex (true :: a ++ [false]) p = 1 + ex a (p - 1) := by
    intro p hp h0
    rw [ex_append_le _ _ (by rw [hl]; exact hp)]
    obtain ⟨q, rfl⟩ : ∃ q, p = q + 1 := ⟨p - 1, by omega⟩
    rw [ex_cons]
    rfl
  have e2 : ex (true :: a ++ [false]) (a.length + 1 + 1) = 0 := by
    have := ex_append_add (true :: a) [false] 1
    rw [hl, ex_cons, h.1] at this
    rw [this]
    decide
  refine ⟨⟨by simp only [List.length_append, hl, List.length_singleton]; exact e2, fun p hp => ?_⟩, ⟨by omega, by simp, by rw [e2, ex_zero], fun p h1 h2 => ?_⟩⟩
  · simp only [List.length_append, hl, List.length_singleton] at hp
    by_cases hc : p = a.length + 1 + 1
    · rw [hc, e2]; omega
    · by_cases h0 : p = 0
      · rw [h0, ex_zero]; omega
      · rw [e1 p (by omega) (by omega)]
        have := h.2 (p - 1) (by omega)
        omega
  · rw [ex_zero, e1 p h2 h1]
    have := h.2 (p - 1) (by omega)
    omega

theorem MateOf.wrap {a : List Bool} {i m : Nat} (h : MateOf a i m) : MateOf (true :: a ++ [false]) (i + 1) (m + 1) := by
  have := (h.inr [true]).inl [false]
  rw [show [true].length + i = i + 1 by simp; omega, show [true].length + m = m + 1 by simp; omega] at this
  exact this

end Go.Proofs.Ytlciacpffoekjaa
