/- Joined texts: ParPure, Paren, Paren2, Ahead, Behind, ParMate, Over, Make, Par3, Low. -/
import Derived.Test.YtblkkcpeodoclaaGreatDoorRanks
import Derived.Deep.RegionHeld3
import Derived.Laws.Rows
import Derived.Laws.OwnMore

/- Plain laws of parentheses: excesses, the least of a run, the tree's nodes; no program is named here. -/
namespace Go.Proofs.YtblkkcpeodoclaaGreatDoor

/-- The excess ahead of a place; behind the last one it stays. -/
def ex (l : List Bool) (p : Nat) : Int := 2 * rk l 1 (min p l.length) - (min p l.length : Nat)

/-- The step at a place. -/
def stepZ (l : List Bool) (p : Nat) : Int := 2 * ((l.getD p false).toNat : Int) - 1

theorem ex_zero (l : List Bool) : ex l 0 = 0 := by simp [ex, rk_zero]

theorem ex_succ (l : List Bool) {p : Nat} (h : p < l.length) : ex l (p + 1) = ex l p + stepZ l p := by
  have := rk_succ l 1 p (.inr rfl) h
  unfold ex stepZ
  rw [Nat.min_eq_left (by omega), Nat.min_eq_left (by omega), this]
  cases l.getD p false <;> simp <;> omega

theorem ex_past (l : List Bool) {p : Nat} (h : l.length ≤ p) : ex l p = ex l l.length := by
  unfold ex; rw [Nat.min_eq_right h, Nat.min_self]

theorem stepZ_cases (l : List Bool) (p : Nat) : stepZ l p = 1 ∨ stepZ l p = -1 := by
  unfold stepZ; cases l.getD p false <;> simp

theorem ex_step (l : List Bool) (p : Nat) : ex l p - 1 ≤ ex l (p + 1) ∧ ex l (p + 1) ≤ ex l p + 1 := by
  by_cases h : p < l.length
  · have h1 := ex_succ l h
    have h2 := stepZ_cases l p
    omega
  · rw [ex_past l (p := p) (by omega), ex_past l (p := p + 1) (by omega)]; omega

theorem ex_bound (l : List Bool) (p : Nat) : -(l.length : Int) ≤ ex l p ∧ ex l p ≤ l.length := by
  have h := rk_bounds l 1 (.inr rfl) (min p l.length) (by omega)
  unfold ex
  omega

/-- The least of a run, from its beginning on. -/
def lowN (l : List Bool) (a : Nat) : Nat → Int
  | 0 => 0
  | m + 1 => min (lowN l a m) (ex l (a + (m + 1)) - ex l a)

theorem lowN_le (l : List Bool) (a : Nat) : ∀ m q, q ≤ m → lowN l a m ≤ ex l (a + q) - ex l a
  | 0, q, h => by obtain rfl : q = 0 := by omega
                  simp [lowN]
  | m + 1, q, h => by
    simp only [lowN]
    by_cases hq : q = m + 1
    · subst hq; omega
    · have := lowN_le l a m q (by omega); omega

theorem lowN_hit (l : List Bool) (a : Nat) : ∀ m, ∃ q, q ≤ m ∧ lowN l a m = ex l (a + q) - ex l a
  | 0 => ⟨0, by omega, by simp [lowN]⟩
  | m + 1 => by
    simp only [lowN]
    obtain ⟨q, h1, h2⟩ := lowN_hit l a m
    rcases Int.le_total (lowN l a m) (ex l (a + (m + 1)) - ex l a) with h | h
    · exact ⟨q, by omega, by omega⟩
    · exact ⟨m + 1, by omega, by omega⟩

theorem lowN_add (l : List Bool) (a m q : Nat) : lowN l a (m + q) = min (lowN l a m) (ex l (a + m) - ex l a + lowN l (a + m) q) := by
  obtain ⟨x, hx, hx2⟩ := lowN_hit l a (m + q)
  obtain ⟨y, hy, hy2⟩ := lowN_hit l a m
  obtain ⟨z, hz, hz2⟩ := lowN_hit l (a + m) q
  have h1 := lowN_le l a (m + q) y (by omega)
  have h2 := lowN_le l a (m + q) (m + z) (by omega)
  rw [show a + (m + z) = a + m + z by omega] at h2
  by_cases hc : x ≤ m
  · have h3 := lowN_le l a m x hc
    omega
  · have h3 := lowN_le l (a + m) q (x - m) (by omega)
    rw [show a + m + (x - m) = a + x by omega] at h3
    omega

theorem lowN_neg (l : List Bool) (a m : Nat) : lowN l a m ≤ 0 := by
  have := lowN_le l a m 0 (Nat.zero_le _); simp at this; exact this

theorem lowN_sum (l : List Bool) (a m : Nat) : lowN l a m ≤ ex l (a + m) - ex l a := lowN_le l a m m (Nat.le_refl _)

theorem lowN_bound (l : List Bool) (a m : Nat) : -(2 * (l.length : Int)) ≤ lowN l a m := by
  obtain ⟨q, _, h⟩ := lowN_hit l a m
  have h1 := ex_bound l (a + q)
  have h2 := ex_bound l a
  omega

/-- How the excess changes behind the last one: not at all. -/
theorem lowN_past (l : List Bool) (a m q : Nat) (h : l.length ≤ a + m) : lowN l a (m + q) = lowN l a m := by
  rw [lowN_add]
  have h1 := lowN_sum l a m
  obtain ⟨z, _, hz⟩ := lowN_hit l (a + m) q
  rw [ex_past l (p := a + m + z) (by omega), ex_past l (p := a + m) (by omega)] at hz
  rw [hz]
  rw [ex_past l (p := a + m) (by omega)] at h1 ⊢
  omega

/-! The tree over blocks: 2 ^ h leaves. -/

def tstart (h k : Nat) : Nat := 512 * ((k - 2 ^ k.log2) * 2 ^ (h - k.log2))
def twidth (h k : Nat) : Nat := 512 * 2 ^ (h - k.log2)
def tsum (l : List Bool) (h k : Nat) : Int := ex l (tstart h k + twidth h k) - ex l (tstart h k)
def tlow (l : List Bool) (h k : Nat) : Int := lowN l (tstart h k) (twidth h k)

theorem log2_two (k : Nat) (h : 1 ≤ k) : (2 * k).log2 = k.log2 + 1 := by
  rw [Nat.log2_def, if_pos (by omega), show 2 * k / 2 = k by omega]
theorem log2_two1 (k : Nat) (h : 1 ≤ k) : (2 * k + 1).log2 = k.log2 + 1 := by
  rw [Nat.log2_def, if_pos (by omega), show (2 * k + 1) / 2 = k by omega]
theorem log2_leaf (h b : Nat) (hb : b < 2 ^ h) : (2 ^ h + b).log2 = h := by
  have hp : 0 < 2 ^ h := Nat.two_pow_pos h
  have h1 : h ≤ (2 ^ h + b).log2 := (Nat.le_log2 (by omega)).2 (by omega)
  have h2 : (2 ^ h + b).log2 < h + 1 := (Nat.log2_lt (by omega)).2 (by rw [Nat.pow_succ]; omega)
  omega

theorem tstart_leaf (h b : Nat) (hb : b < 2 ^ h) : tstart h (2 ^ h + b) = 512 * b := by
  unfold tstart; rw [log2_leaf h b hb]; simp
theorem twidth_leaf (h b : Nat) (hb : b < 2 ^ h) : twidth h (2 ^ h + b) = 512 := by
  unfold twidth; rw [log2_leaf h b hb]; simp
theorem tstart_root (h : Nat) : tstart h 1 = 0 := by simp [tstart, Nat.log2_def]
theorem twidth_root (h : Nat) : twidth h 1 = 512 * 2 ^ h := by simp [twidth, Nat.log2_def]

theorem tkids (h k : Nat) (h1 : 1 ≤ k) (hk : k < 2 ^ h) :
    tstart h (2 * k) = tstart h k ∧ tstart h (2 * k + 1) = tstart h k + twidth h (2 * k) ∧ twidth h (2 * k + 1) = twidth h (2 * k) ∧ twidth h k = twidth h (2 * k) + twidth h (2 * k) := by
  have hd : k.log2 < h := (Nat.log2_lt (by omega)).2 hk
  have hle : 2 ^ k.log2 ≤ k := Nat.log2_self_le (by omega)
  unfold tstart twidth
  rw [log2_two k h1, log2_two1 k h1]
  generalize k.log2 = d at *
  obtain ⟨j, rfl⟩ : ∃ j, h = d + 1 + j := ⟨h - d - 1, by omega⟩
  rw [show d + 1 + j - (d + 1) = j by omega, show d + 1 + j - d = j + 1 by omega]
  rw [Nat.pow_succ 2 d, Nat.pow_succ 2 j]
  rw [show 2 * k - 2 ^ d * 2 = 2 * (k - 2 ^ d) by omega, show 2 * k + 1 - 2 ^ d * 2 = 2 * (k - 2 ^ d) + 1 by omega]
  generalize k - 2 ^ d = x
  generalize 2 ^ j = y
  have e1 : 2 * x * y = x * (y * 2) := by rw [Nat.mul_comm 2 x, Nat.mul_assoc, Nat.mul_comm 2 y]
  have e2 : (2 * x + 1) * y = x * (y * 2) + y := by rw [Nat.add_mul, e1, Nat.one_mul]
  rw [e1, e2]
  exact ⟨rfl, by omega, rfl, by omega⟩

theorem tsum_kids (l : List Bool) (h k : Nat) (h1 : 1 ≤ k) (hk : k < 2 ^ h) : tsum l h k = tsum l h (2 * k) + tsum l h (2 * k + 1) := by
  obtain ⟨a, b, c, d⟩ := tkids h k h1 hk
  unfold tsum
  rw [a, b, c, d, ← Nat.add_assoc]
  omega

theorem tlow_kids (l : List Bool) (h k : Nat) (h1 : 1 ≤ k) (hk : k < 2 ^ h) : tlow l h k = min (tlow l h (2 * k)) (tsum l h (2 * k) + tlow l h (2 * k + 1)) := by
  obtain ⟨a, b, c, d⟩ := tkids h k h1 hk
  unfold tlow tsum
  rw [a, b, c, d, lowN_add]

/-- One up from an odd one: the same end. -/
theorem tup (h k : Nat) (h2 : 2 ≤ k) (hk : k < 2 * 2 ^ h) (ho : k % 2 = 1) : tstart h (k / 2) + twidth h (k / 2) = tstart h k + twidth h k := by
  obtain ⟨a, b, c, d⟩ := tkids h (k / 2) (by omega) (by omega)
  rw [show 2 * (k / 2) + 1 = k by omega] at b c
  rw [b, c, d]; omega

/-- Right from an even one. -/
theorem tright (h k : Nat) (h2 : 2 ≤ k) (hk : k < 2 * 2 ^ h) (ho : k % 2 = 0) : tstart h (k + 1) = tstart h k + twidth h k := by
  obtain ⟨a, b, c, d⟩ := tkids h (k / 2) (by omega) (by omega)
  rw [show 2 * (k / 2) = k by omega] at a b c d
  rw [b, a]

theorem twidth_pos (h k : Nat) : 512 ≤ twidth h k := by
  have := Nat.two_pow_pos (h - k.log2); unfold twidth; omega

theorem tsum_bound (l : List Bool) (h k : Nat) : -(2 * (l.length : Int)) ≤ tsum l h k ∧ tsum l h k ≤ 2 * l.length := by
  have h1 := ex_bound l (tstart h k)
  have h2 := ex_bound l (tstart h k + twidth h k)
  unfold tsum; omega

theorem tlow_bound (l : List Bool) (h k : Nat) : -(2 * (l.length : Int)) ≤ tlow l h k ∧ tlow l h k ≤ 0 := ⟨lowN_bound _ _ _, lowN_neg _ _ _⟩

/-! What is looked for. -/

/-- The first place behind i whose excess is below that of i. -/
structure IsAhead (l : List Bool) (i T : Nat) : Prop where
  lt : i < T
  le : T ≤ l.length
  hit : ex l T = ex l i - 1
  above : ∀ p, i ≤ p → p < T → ex l i ≤ ex l p

theorem IsAhead.iff {l : List Bool} {i T p : Nat} (h : IsAhead l i T) (h1 : i ≤ p) (h2 : p ≤ T) : ex l p = ex l i - 1 ↔ p = T := by
  constructor
  · intro hp
    by_cases hT : p < T
    · have := h.above p h1 hT; omega
    · omega
  · rintro rfl; exact h.hit

/-- A node that stays above is passed by. -/
theorem IsAhead.pass {l : List Bool} {i T a m : Nat} (h : IsAhead l i T) (h1 : i ≤ a) : (ex l a + lowN l a m > ex l i - 1 → a + m < T ∨ T < a) ∧ (¬ ex l a + lowN l a m > ex l i - 1 → T ≤ a + m) := by
  constructor
  · intro hp
    by_cases hT : a ≤ T ∧ T ≤ a + m
    · have := lowN_le l a m (T - a) (by omega)
      rw [show a + (T - a) = T by omega, h.hit] at this
      omega
    · omega
  · intro hp
    obtain ⟨q, h2, h3⟩ := lowN_hit l a m
    by_cases hT : a + q < T
    · have := h.above (a + q) (by omega) hT; omega
    · omega

/-- The last place ahead of i whose excess is so great; between, it is above. -/
structure IsBehind (l : List Bool) (i : Nat) (want : Int) (B : Nat) : Prop where
  lt : B < i
  le : i ≤ l.length
  hit : ex l B = want
  above : ∀ p, B < p → p ≤ i → want < ex l p

theorem IsBehind.iff {l : List Bool} {i B p : Nat} {want : Int} (h : IsBehind l i want B) (h1 : B ≤ p) (h2 : p ≤ i) : ex l p = want ↔ p = B := by
  constructor
  · intro hp
    by_cases hB : B < p
    · have := h.above p hB h2; omega
    · omega
  · rintro rfl; exact h.hit

theorem IsBehind.pass {l : List Bool} {i B a m : Nat} {want : Int} (h : IsBehind l i want B) (h1 : B < a + m) (hp : ¬ ex l a + lowN l a m ≤ want) : B < a := by
  by_cases hB : a ≤ B
  · have := lowN_le l a m (B - a) (by omega)
    rw [show a + (B - a) = B by omega, h.hit] at this
    omega
  · omega

end Go.Proofs.YtblkkcpeodoclaaGreatDoor

/- The contracts of package paren: what is read off. -/
namespace Go.Proofs.YtblkkcpeodoclaaGreatDoor
open Go.RowKit

/-- Are they balanced? -/
def Bal (l : List Bool) : Prop := ex l l.length = 0 ∧ ∀ p, p ≤ l.length → 0 ≤ ex l p

theorem ex_abs (l : List Bool) (p : Nat) (h : l.length ≤ 100000000) : -100000000 ≤ ex l p ∧ ex l p ≤ 100000000 := by
  have := ex_bound l p
  omega

/-- An answer that says whether they are. -/
def SaysBal (l : List Bool) (e : Ending) : Prop := ∃ t : Bool, e = .returned (.bool t) ∧ (t = true ↔ Bal l)

/-- The cells of a Paren: its index, done, the lock, the tree, how often built. -/
def parCells (bi : Nat) (done : Bool) (lock : Int) (tv : Value) (built : Int) : Array Value :=
  #[.pointer (some ⟨bi, 0, none⟩), .int .u32 (if done then 1 else 0), .int .i32 lock, .int .u32 0, tv, .int .i64 built]

/-- How high the tree is. -/
def IsH (l : List Bool) (h : Nat) : Prop := l.length ≤ 512 * 2 ^ h ∧ ∀ j, j < h → 512 * 2 ^ j < l.length

theorem IsH.ex (l : List Bool) : ∃ h, IsH l h := by
  have h0 : ∃ h, l.length ≤ 512 * 2 ^ h := ⟨l.length, by have := Nat.lt_two_pow_self (n := l.length); omega⟩
  obtain ⟨h, hh⟩ := h0
  induction h with
  | zero => exact ⟨0, hh, fun j hj => by omega⟩
  | succ h ih =>
    by_cases hc : l.length ≤ 512 * 2 ^ h
    · exact ih hc
    · refine ⟨h + 1, hh, fun j hj => ?_⟩
      have : 2 ^ j ≤ 2 ^ h := Nat.pow_le_pow_right (by decide) (by omega)
      omega

theorem IsH.unique {l : List Bool} {h k : Nat} (a : IsH l h) (b : IsH l k) : h = k := by
  rcases Nat.lt_trichotomy h k with hl | rfl | hl
  · have := b.2 h hl; have := a.1; omega
  · rfl
  · have := a.2 k hl; have := b.1; omega

theorem IsH.bound {l : List Bool} {h : Nat} (a : IsH l h) (hl : l.length ≤ 100000000) : 1 ≤ 2 ^ h ∧ 2 ^ h ≤ 400000 := by
  refine ⟨Nat.two_pow_pos h, ?_⟩
  match h, a with
  | 0, _ => decide
  | h + 1, a => have := a.2 h (by omega); rw [Nat.pow_succ]; omega

/-- The tree: none, or its nodes. -/
def TreeAt (w : World) (done : Bool) (tv : Value) (l : List Bool) : Prop :=
  if done then ∃ h g, IsH l h ∧ tv = .slice (some ⟨g, 0, none⟩) (2 * 2 ^ h) (2 * 2 ^ h) ∧ g < w.heap.size ∧ ∀ k, 1 ≤ k → k < 2 * 2 ^ h →
    w.cell? ⟨g, k * 2, none⟩ = some (.int .i64 (tsum l h k)) ∧ w.cell? ⟨g, k * 2 + 1, none⟩ = some (.int .i64 (tlow l h k))
  else tv = .slice none 0 0

theorem TreeAt.keeps {w w' : World} {done : Bool} {tv : Value} {l : List Bool} {G : Nat → Prop} (h : TreeAt w done tv l) (k : Keeps G w w') (hG : ∀ x, tv.ownBlock = some x → ¬ G x) : TreeAt w' done tv l := by
  cases done with
  | false => exact h
  | true =>
    obtain ⟨h, g, h1, rfl, hg, h2⟩ := h
    refine ⟨h, g, h1, rfl, Nat.lt_of_lt_of_le hg k.size, fun j hj hj2 => ?_⟩
    rw [World.cell?_of_block (w := w) (a := ⟨g, _, none⟩) (k.block g hg (hG g rfl)), World.cell?_of_block (w := w) (a := ⟨g, _, none⟩) (k.block g hg (hG g rfl))]
    exact h2 j hj hj2

end Go.Proofs.YtblkkcpeodoclaaGreatDoor

/- The contracts of package paren: New, Excess, Size, Built, over; nil. -/
namespace Go.Proofs.YtblkkcpeodoclaaGreatDoor
open Go.RowKit

/-! A question's state, told against a world that stays. -/

end Go.Proofs.YtblkkcpeodoclaaGreatDoor

/- The contracts of package paren: the tree as it is read; ahead. -/
namespace Go.Proofs.YtblkkcpeodoclaaGreatDoor
open Go.RowKit

/-- The laws of a tree over L leaves: where a node begins, how wide it is. -/
structure TL (L : Nat) (ts tw : Nat → Nat) : Prop where
  up : ∀ k, 2 ≤ k → k < 2 * L → k % 2 = 1 → ts (k / 2) + tw (k / 2) = ts k + tw k
  right : ∀ k, 2 ≤ k → k < 2 * L → k % 2 = 0 → ts (k + 1) = ts k + tw k
  kids : ∀ k, 1 ≤ k → k < L → ts (2 * k) = ts k ∧ ts (2 * k + 1) = ts k + tw (2 * k) ∧ tw (2 * k + 1) = tw (2 * k) ∧ tw k = tw (2 * k) + tw (2 * k)
  leaf : ∀ b, b < L → ts (L + b) = 512 * b
  leafw : ∀ b, b < L → tw (L + b) = 512
  root : ts 1 + tw 1 = 512 * L
  pos : ∀ k, 512 ≤ tw k

theorem TL.of (h : Nat) : TL (2 ^ h) (tstart h) (twidth h) :=
  ⟨tup h, tright h, tkids h, tstart_leaf h, twidth_leaf h, by rw [tstart_root, twidth_root]; omega, twidth_pos h⟩

theorem lowN_abs (l : List Bool) (a m : Nat) (h : l.length ≤ 100000000) : -200000000 ≤ lowN l a m ∧ lowN l a m ≤ 0 := by
  have := lowN_bound l a m
  have := lowN_neg l a m
  omega

end Go.Proofs.YtblkkcpeodoclaaGreatDoor

/- The contracts of package paren: behind. -/
namespace Go.Proofs.YtblkkcpeodoclaaGreatDoor
open Go.RowKit

theorem IsBehind.pos {l : List Bool} {i B : Nat} {want : Int} (h : IsBehind l i want B) : 1 ≤ i := by have := h.lt; omega

end Go.Proofs.YtblkkcpeodoclaaGreatDoor

/- Plain laws of pairs of parentheses. -/
namespace Go.Proofs.YtblkkcpeodoclaaGreatDoor

theorem ex_cnt (l : List Bool) (p : Nat) : ex l p = 2 * (cnt (l.take p) : Int) - (min p l.length : Nat) := by
  unfold ex rk ofZ
  rw [if_pos rfl, cnt_take_min l p]

theorem ex_append_le (a b : List Bool) {p : Nat} (h : p ≤ a.length) : ex (a ++ b) p = ex a p := by
  rw [ex_cnt, ex_cnt, List.take_append_of_le_length h, List.length_append]
  omega

theorem ex_append_add (a b : List Bool) (q : Nat) : ex (a ++ b) (a.length + q) = ex a a.length + ex b q := by
  rw [ex_cnt, ex_cnt, ex_cnt, List.take_append, List.take_of_length_le (l := a) (i := a.length + q) (by omega), List.take_of_length_le (l := a) (i := a.length) (by omega), show a.length + q - a.length = q by omega, cnt_append, List.length_append]
  omega

theorem bit_ex (l : List Bool) {p : Nat} (h : p < l.length) : ex l (p + 1) = if l.getD p false then ex l p + 1 else ex l p - 1 := by
  rw [ex_succ l h]
  unfold stepZ
  cases l.getD p false <;> simp <;> omega

theorem bit_up (l : List Bool) {p : Nat} (h : p < l.length) (hx : ex l p < ex l (p + 1)) : l.getD p false = true := by
  have := bit_ex l h
  cases hb : l.getD p false with
  | true => rfl
  | false => rw [hb, if_neg (by simp)] at this; omega

theorem bit_down (l : List Bool) {p : Nat} (h : p < l.length) (hx : ex l (p + 1) < ex l p) : l.getD p false = false := by
  have := bit_ex l h
  cases hb : l.getD p false with
  | false => rfl
  | true => rw [hb, if_pos rfl] at this; omega

/-- A pair: i opens, j closes. -/
structure IsPair (l : List Bool) (i j : Nat) : Prop where
  lt : i < j
  le : j < l.length
  hit : ex l (j + 1) = ex l i
  above : ∀ p, i < p → p ≤ j → ex l i < ex l p

theorem IsPair.opens {l : List Bool} {i j : Nat} (h : IsPair l i j) : l.getD i false = true ∧ ex l (i + 1) = ex l i + 1 := by
  have h1 := h.above (i + 1) (by omega) (by have := h.lt; omega)
  have h2 := bit_up l (by have := h.lt; have := h.le; omega) h1
  refine ⟨h2, ?_⟩
  have := bit_ex l (p := i) (by have := h.lt; have := h.le; omega)
  rw [h2, if_pos rfl] at this
  exact this

theorem IsPair.closes {l : List Bool} {i j : Nat} (h : IsPair l i j) : l.getD j false = false ∧ ex l (j + 1) = ex l j - 1 := by
  have h1 := h.above j h.lt (Nat.le_refl _)
  have h3 := h.hit
  have h2 := bit_down l h.le (by omega)
  refine ⟨h2, ?_⟩
  have := bit_ex l h.le
  rw [h2, if_neg (by simp)] at this
  exact this

theorem IsPair.ahead {l : List Bool} {i j : Nat} (h : IsPair l i j) : IsAhead l (i + 1) (j + 1) := by
  have h1 := h.opens.2
  refine ⟨by have := h.lt; omega, h.le, by have := h.hit; omega, fun p h2 h3 => ?_⟩
  have := h.above p (by omega) (by omega)
  omega

theorem IsPair.behind {l : List Bool} {i j : Nat} (h : IsPair l i j) : IsBehind l j (ex l (j + 1)) i :=
  ⟨h.lt, by have := h.le; omega, h.hit.symm, fun p h1 h2 => by rw [h.hit]; exact h.above p h1 h2⟩

theorem IsBehind.unique {l : List Bool} {i : Nat} {want : Int} {B C : Nat} (h : IsBehind l i want B) (k : IsBehind l i want C) : B = C := by
  rcases Nat.lt_trichotomy B C with h1 | h1 | h1
  · have := h.above C h1 (by have := k.lt; omega); have := k.hit; omega
  · exact h1
  · have := k.above B h1 (by have := h.lt; omega); have := h.hit; omega

theorem IsPair.right {l : List Bool} {i j k : Nat} (h : IsPair l i j) (h2 : IsPair l i k) : j = k := by
  have h3 := h.hit
  have h4 := h2.hit
  rcases Nat.lt_trichotomy j k with h1 | h1 | h1
  · have := h2.above (j + 1) (by have := h.lt; omega) h1; omega
  · exact h1
  · have := h.above (k + 1) (by have := h2.lt; omega) h1; omega

theorem IsPair.left {l : List Bool} {i j k : Nat} (h : IsPair l i k) (h2 : IsPair l j k) : i = j := h.behind.unique h2.behind

/-- The other one of a pair. -/
def MateOf (l : List Bool) (i m : Nat) : Prop := (l.getD i false = true ∧ IsPair l i m) ∨ (l.getD i false = false ∧ IsPair l m i)

theorem IsPair.mate_l {l : List Bool} {i j : Nat} (h : IsPair l i j) : MateOf l i j := .inl ⟨h.opens.1, h⟩
theorem IsPair.mate_r {l : List Bool} {i j : Nat} (h : IsPair l i j) : MateOf l j i := .inr ⟨h.closes.1, h⟩

theorem MateOf.symm {l : List Bool} {i m : Nat} (h : MateOf l i m) : MateOf l m i := by
  rcases h with ⟨_, h⟩ | ⟨_, h⟩
  · exact h.mate_r
  · exact h.mate_l

theorem MateOf.lt {l : List Bool} {i m : Nat} (h : MateOf l i m) : m < l.length := by
  rcases h with ⟨_, h⟩ | ⟨_, h⟩
  · exact h.le
  · have := h.lt; have := h.le; omega

theorem MateOf.unique {l : List Bool} {i m n : Nat} (h : MateOf l i m) (k : MateOf l i n) : m = n := by
  rcases h with ⟨h0, h⟩ | ⟨h0, h⟩ <;> rcases k with ⟨k0, k⟩ | ⟨k0, k⟩
  · exact h.right k
  · rw [h0] at k0; cases k0
  · rw [h0] at k0; cases k0
  · exact h.left k

/-- The first place from a on that meets a test. -/
theorem first_of (P : Nat → Prop) [DecidablePred P] (a : Nat) : ∀ d, P (a + d) → ∃ n, a ≤ n ∧ n ≤ a + d ∧ P n ∧ ∀ p, a ≤ p → p < n → ¬ P p
  | 0, h => ⟨a, Nat.le_refl _, Nat.le_refl _, h, fun p h1 h2 => by omega⟩
  | d + 1, h => by
    by_cases hc : ∃ e, e ≤ d ∧ P (a + e)
    · obtain ⟨e, he, hp⟩ := hc
      obtain ⟨n, h1, h2, h3, h4⟩ := first_of P a e hp
      exact ⟨n, h1, by omega, h3, h4⟩
    · refine ⟨a + (d + 1), by omega, Nat.le_refl _, h, fun p h1 h2 hp => hc ⟨p - a, by omega, ?_⟩⟩
      rwa [show a + (p - a) = p by omega]
termination_by d => d
decreasing_by all_goals omega

/-- The last place up to a that meets a test. -/
theorem last_of (P : Nat → Prop) [DecidablePred P] : ∀ a, P 0 → ∃ n, n ≤ a ∧ P n ∧ ∀ p, n < p → p ≤ a → ¬ P p
  | 0, h => ⟨0, Nat.le_refl _, h, fun p h1 h2 => by omega⟩
  | a + 1, h => by
    by_cases hc : P (a + 1)
    · exact ⟨a + 1, Nat.le_refl _, hc, fun p h1 h2 => by omega⟩
    · obtain ⟨n, h1, h2, h3⟩ := last_of P a h
      refine ⟨n, by omega, h2, fun p h4 h5 => ?_⟩
      by_cases hp : p = a + 1
      · rw [hp]; exact hc
      · exact h3 p h4 (by omega)

/-- The last place ahead whose excess is less by one. -/
theorem behind_ex (l : List Bool) (i : Nat) (hi : i ≤ l.length) (hx : 0 < ex l i) (w : Int) (hw : w = ex l i - 1) : ∃ B, IsBehind l i w B := by
  obtain ⟨n, h1, h2, h3⟩ := last_of (fun p => ex l p ≤ w) i (by rw [ex_zero]; omega)
  have hn : n < i := by
    rcases Nat.lt_or_ge n i with h | h
    · exact h
    · obtain rfl : n = i := by omega
      omega
  refine ⟨n, hn, hi, ?_, fun p h4 h5 => by have := h3 p h4 h5; omega⟩
  have h4 := h3 (n + 1) (by omega) hn
  have h5 := ex_step l n
  omega

theorem Bal.mate {l : List Bool} (h : Bal l) {i : Nat} (hi : i < l.length) : ∃ m, MateOf l i m := by
  have hb := bit_ex l hi
  cases hl : l.getD i false with
  | true =>
    rw [hl, if_pos rfl] at hb
    have h0 := h.2 i (by omega)
    obtain ⟨n, h1, h2, h3, h4⟩ := first_of (fun p => ex l p ≤ ex l i) (i + 1) (l.length - (i + 1)) (by
      simp only [show i + 1 + (l.length - (i + 1)) = l.length by omega, h.1]; exact h0)
    have hn : i + 1 < n := by
      rcases Nat.lt_or_ge (i + 1) n with h | h
      · exact h
      · obtain rfl : n = i + 1 := by omega
        omega
    obtain ⟨m, rfl⟩ : ∃ m, n = m + 1 := ⟨n - 1, by omega⟩
    have h5 := h4 m (by omega) (by omega)
    have h6 := ex_step l m
    refine ⟨m, .inl ⟨hl, by omega, by omega, by omega, fun p h7 h8 => by have := h4 p (by omega) (by omega); omega⟩⟩
  | false =>
    rw [hl, if_neg (by simp)] at hb
    have h0 := h.2 (i + 1) (by omega)
    obtain ⟨B, hB⟩ := behind_ex l i (by omega) (by omega) (ex l (i + 1)) (by omega)
    refine ⟨B, .inr ⟨hl, hB.lt, hi, hB.hit.symm, fun p h7 h8 => ?_⟩⟩
    rw [hB.hit]
    exact hB.above p h7 h8

/-- Where the pair around it opens; none: -1. -/
def RoundAt (l : List Bool) (o : Nat) (r : Int) : Prop := (ex l o = 0 ∧ r = -1) ∨ (0 < ex l o ∧ ∃ B : Nat, r = B ∧ IsBehind l o (ex l o - 1) B)
def RoundOf (l : List Bool) (i : Nat) (r : Int) : Prop := (l.getD i false = true ∧ RoundAt l i r) ∨ (l.getD i false = false ∧ ∃ o, IsPair l o i ∧ RoundAt l o r)

theorem RoundAt.unique {l : List Bool} {o : Nat} {r s : Int} (h : RoundAt l o r) (k : RoundAt l o s) : r = s := by
  rcases h with ⟨h0, h⟩ | ⟨h0, B, rfl, h⟩ <;> rcases k with ⟨k0, k⟩ | ⟨k0, C, rfl, k⟩
  · omega
  · omega
  · omega
  · rw [h.unique k]

theorem RoundOf.unique {l : List Bool} {i : Nat} {r s : Int} (h : RoundOf l i r) (k : RoundOf l i s) : r = s := by
  rcases h with ⟨h0, h⟩ | ⟨h0, o, h1, h⟩ <;> rcases k with ⟨k0, k⟩ | ⟨k0, p, k1, k⟩
  · exact h.unique k
  · rw [h0] at k0; cases k0
  · rw [h0] at k0; cases k0
  · rw [h1.left k1] at h; exact h.unique k

theorem Bal.roundAt {l : List Bool} (h : Bal l) {i : Nat} (hi : i ≤ l.length) : ∃ r, RoundAt l i r := by
  have h0 := h.2 i hi
  by_cases hx : ex l i = 0
  · exact ⟨-1, .inl ⟨hx, rfl⟩⟩
  · obtain ⟨B, hB⟩ := behind_ex l i hi (by omega) (ex l i - 1) rfl
    exact ⟨B, .inr ⟨by omega, B, rfl, hB⟩⟩

theorem Bal.round {l : List Bool} (h : Bal l) {i : Nat} (hi : i < l.length) : ∃ r, RoundOf l i r := by
  obtain ⟨m, hm⟩ := h.mate hi
  rcases hm with ⟨h0, hm⟩ | ⟨h0, hm⟩
  · obtain ⟨r, hr⟩ := h.roundAt (i := i) (by omega)
    exact ⟨r, .inl ⟨h0, hr⟩⟩
  · obtain ⟨r, hr⟩ := h.roundAt (i := m) (by have := hm.lt; omega)
    exact ⟨r, .inr ⟨h0, m, hm, hr⟩⟩

/-! Two behind one another; one within a pair. -/

theorem IsPair.inl {a : List Bool} (b : List Bool) {i j : Nat} (h : IsPair a i j) : IsPair (a ++ b) i j := by
  have h1 := h.lt
  have h2 := h.le
  refine ⟨h1, by simp; omega, ?_, fun p h3 h4 => ?_⟩
  · rw [ex_append_le a b h2, ex_append_le a b (by omega)]; exact h.hit
  · rw [ex_append_le a b (p := i) (by omega), ex_append_le a b (p := p) (by omega)]; exact h.above p h3 h4

theorem IsPair.inr (a : List Bool) {b : List Bool} {i j : Nat} (h : IsPair b i j) : IsPair (a ++ b) (a.length + i) (a.length + j) := by
  have h1 := h.lt
  have h2 := h.le
  refine ⟨by omega, by simp; omega, ?_, fun p h3 h4 => ?_⟩
  · rw [Nat.add_assoc, ex_append_add, ex_append_add, h.hit]
  · obtain ⟨q, rfl⟩ : ∃ q, p = a.length + q := ⟨p - a.length, by omega⟩
    rw [ex_append_add, ex_append_add]
    have := h.above q (by omega) (by omega)
    omega

theorem MateOf.inl {a : List Bool} (b : List Bool) {i m : Nat} (h : MateOf a i m) : MateOf (a ++ b) i m := by
  rcases h with ⟨_, h⟩ | ⟨_, h⟩
  · exact (h.inl b).mate_l
  · exact (h.inl b).mate_r

theorem MateOf.inr (a : List Bool) {b : List Bool} {i m : Nat} (h : MateOf b i m) : MateOf (a ++ b) (a.length + i) (a.length + m) := by
  rcases h with ⟨_, h⟩ | ⟨_, h⟩
  · exact (h.inr a).mate_l
  · exact (h.inr a).mate_r

theorem Bal.append {a b : List Bool} (h : Bal a) (k : Bal b) : Bal (a ++ b) := by
  refine ⟨by rw [List.length_append, ex_append_add, h.1, k.1]; rfl, fun p hp => ?_⟩
  rw [List.length_append] at hp
  by_cases hc : p ≤ a.length
  · rw [ex_append_le a b hc]; exact h.2 p hc
  · obtain ⟨q, rfl⟩ : ∃ q, p = a.length + q := ⟨p - a.length, by omega⟩
    rw [ex_append_add, h.1]
    have := k.2 q (by omega)
    omega

theorem ex_cons (a : List Bool) (q : Nat) : ex (true :: a) (q + 1) = 1 + ex a q := by
  have := ex_append_add [true] a q
  rw [show [true].length + q = q + 1 by simp; omega] at this
  rw [show true :: a = [true] ++ a from rfl, this]
  rfl

theorem Bal.wrap {a : List Bool} (h : Bal a) : Bal (true :: a ++ [false]) ∧ IsPair (true :: a ++ [false]) 0 (a.length + 1) := by
  have hl : (true :: a).length = a.length + 1 := by simp
  have e1 : ∀ p, p ≤ a.length + 1 → 0 < p → ex (true :: a ++ [false]) p = 1 + ex a (p - 1) := by
    intro p hp h0
    rw [ex_append_le _ _ (by rw [hl]; exact hp)]
    obtain ⟨q, rfl⟩ : ∃ q, p = q + 1 := ⟨p - 1, by omega⟩
    rw [ex_cons]
    rfl
  have e2 : ex (true :: a ++ [false]) (a.length + 1 + 1) = 0 := by
    have := ex_append_add (true :: a) [false] 1
    rw [hl, ex_cons, h.1] at this
    rw [this]
    decide
  refine ⟨⟨by simp only [List.length_append, hl, List.length_singleton]; exact e2, fun p hp => ?_⟩, ⟨by omega, by simp, by rw [e2, ex_zero], fun p h1 h2 => ?_⟩⟩
  · simp only [List.length_append, hl, List.length_singleton] at hp
    by_cases hc : p = a.length + 1 + 1
    · rw [hc, e2]; omega
    · by_cases h0 : p = 0
      · rw [h0, ex_zero]; omega
      · rw [e1 p (by omega) (by omega)]
        have := h.2 (p - 1) (by omega)
        omega
  · rw [ex_zero, e1 p h2 h1]
    have := h.2 (p - 1) (by omega)
    omega

theorem MateOf.wrap {a : List Bool} {i m : Nat} (h : MateOf a i m) : MateOf (true :: a ++ [false]) (i + 1) (m + 1) := by
  have := (h.inr [true]).inl [false]
  rw [show [true].length + i = i + 1 by simp; omega, show [true].length + m = m + 1 by simp; omega] at this
  exact this

end Go.Proofs.YtblkkcpeodoclaaGreatDoor

/- The contracts of package paren: over. -/
namespace Go.Proofs.YtblkkcpeodoclaaGreatDoor
open Go.RowKit

theorem ret_cell {P : Program} {fn : Func} {R : Ending → World → Prop} {a : Act} {W0 : World} {g : Nat} {p : Tmp} {ty : TypeId} {cs : Array Value} {d : TypeDesc} (h : fn.results = #[.cell p ty]) (hg : W0.heap.size = g)
    (hp : a.tmps.getD p undef = .pointer (some ⟨g, 0, none⟩)) (hu : P.underlying ty = some d) (hd : (match d with | .struct _ | .array _ _ => true | _ => false) = true) (hi : (P.info? ty).map (·.size) = some cs.size)
    (hdf : a.defers = []) (hR : R (.returned (.agg cs)) (W0.alloc (.cells cs ty))) : bodyPost P fn R .ret a (W0.alloc (.cells cs ty)) := by
  refine bodyPost_ret (results_cell_row h _ _ g ty cs (0, 0) d hp ?_ hu hd hi) hdf hR
  rw [← hg]
  exact heap_alloc_new W0 _

theorem agg2 {a b c d : Int} (h : a = c) (k : b = d) : Ending.returned (.agg #[.int .i64 a, .int .i64 b]) = .returned (.agg #[.int .i64 c, .int .i64 d]) := by rw [h, k]

end Go.Proofs.YtblkkcpeodoclaaGreatDoor

/- The contract of package paren's make: the tree. -/
namespace Go.Proofs.YtblkkcpeodoclaaGreatDoor
open Go.RowKit

theorem Keeps.cellF {w w' : World} (k : Keeps (fun _ => False) w w') {a : Addr} {v : Value} (h : w.cell? a = some v) : w'.cell? a = some v := by
  rw [World.cell?_of_block (w := w) (k.block a.block (World.block_lt_of_cell? _ _ h) (fun h => h))]
  exact h

theorem set2_other {w : World} {g j : Nat} {a : Addr} {v : Value} (h : w.cell? a = some v) (h1 : a ≠ ⟨g, j * 2, none⟩) (h2 : a ≠ ⟨g, j * 2 + 1, none⟩) (x y : Value) : ((w.setCell ⟨g, j * 2, none⟩ x).setCell ⟨g, j * 2 + 1, none⟩ y).cell? a = some v := by
  rw [World.cell?_setCell_other _ _ _ _ (Ne.symm h2), World.cell?_setCell_other _ _ _ _ (Ne.symm h1)]
  exact h

theorem set2_block {w : World} {g j b o : Nat} {v : Value} (h : w.cell? ⟨b, o, none⟩ = some v) (h1 : b ≠ g) (x y : Value) : ((w.setCell ⟨g, j * 2, none⟩ x).setCell ⟨g, j * 2 + 1, none⟩ y).cell? ⟨b, o, none⟩ = some v :=
  set2_other h (fun e => h1 (congrArg Addr.block e)) (fun e => h1 (congrArg Addr.block e)) x y
theorem set2_node {w : World} {g j o : Nat} {v : Value} (h : w.cell? ⟨g, o, none⟩ = some v) (h1 : o ≠ j * 2 ∧ o ≠ j * 2 + 1) (x y : Value) : ((w.setCell ⟨g, j * 2, none⟩ x).setCell ⟨g, j * 2 + 1, none⟩ y).cell? ⟨g, o, none⟩ = some v :=
  set2_other h (fun e => h1.1 (congrArg Addr.off e)) (fun e => h1.2 (congrArg Addr.off e)) x y

theorem Keeps.frozenF {w w' : World} (k : Keeps (fun _ => False) w w') {a : Addr} {v : Value} (hc : w.cell? a = some v) (h : w.frozen? a = false) : w'.frozen? a = false := by
  have hb := k.block a.block (World.block_lt_of_cell? _ _ hc) (fun h => h)
  unfold World.frozen? at h ⊢
  rw [hb]
  exact h

/-- The laws of nodes over L leaves. -/
structure NL (l : List Bool) (L : Nat) (sm lo : Nat → Int) : Prop where
  leaf : ∀ c, c < L → sm (L + c) = ex l (512 * (c + 1)) - ex l (512 * c) ∧ lo (L + c) = lowN l (512 * c) 512
  kids : ∀ k, 1 ≤ k → k < L → sm k = sm (k * 2) + sm (k * 2 + 1) ∧ lo k = min (lo (k * 2)) (sm (k * 2) + lo (k * 2 + 1))
  bd : ∀ k, -200000000 ≤ sm k ∧ sm k ≤ 200000000 ∧ -200000000 ≤ lo k ∧ lo k ≤ 200000000 ∧ lo k ≤ sm k

theorem NL.of (l : List Bool) (h : Nat) (hl : l.length ≤ 100000000) : NL l (2 ^ h) (tsum l h) (tlow l h) := by
  refine ⟨fun c hc => ?_, fun k h1 h2 => ?_, fun k => ?_⟩
  · unfold tsum tlow
    rw [tstart_leaf h c hc, twidth_leaf h c hc, show 512 * c + 512 = 512 * (c + 1) by omega]
    exact ⟨rfl, rfl⟩
  · rw [Nat.mul_comm k 2]
    exact ⟨tsum_kids l h k h1 h2, tlow_kids l h k h1 h2⟩
  · have h1 := tsum_bound l h k
    have h2 := tlow_bound l h k
    have h3 := lowN_sum l (tstart h k) (twidth h k)
    have h4 : tlow l h k ≤ tsum l h k := h3
    omega

end Go.Proofs.YtblkkcpeodoclaaGreatDoor

/- The contracts of package paren: place, Mate, Round. -/
namespace Go.Proofs.YtblkkcpeodoclaaGreatDoor
open Go.RowKit

theorem atZ_in (l : List Bool) (i : Nat) (h : i < l.length) : atZ l i = ((l.getD i false).toNat : Int) := by
  unfold atZ
  rw [if_pos (by omega), Int.toNat_natCast]

theorem open_bool {l : List Bool} {i : Nat} (h : i < l.length) : (atZ l i == 1) = l.getD i false := by
  rw [atZ_in l i h]; cases l.getD i false <;> rfl

end Go.Proofs.YtblkkcpeodoclaaGreatDoor

/- The contract of package paren: Low. -/
namespace Go.Proofs.YtblkkcpeodoclaaGreatDoor
open Go.RowKit

theorem lowN_run (l : List Bool) (i p m : Nat) (h : i ≤ p) : ex l i + lowN l i (p + m - i) = min (ex l i + lowN l i (p - i)) (ex l p + lowN l p m) := by
  have := lowN_add l i (p - i) m
  rw [show p - i + m = p + m - i by omega, show i + (p - i) = p by omega] at this
  omega

theorem lowN_one (l : List Bool) (p : Nat) : ex l p + lowN l p 1 = min (ex l p) (ex l (p + 1)) := by
  simp only [lowN]; simp; omega

end Go.Proofs.YtblkkcpeodoclaaGreatDoor
