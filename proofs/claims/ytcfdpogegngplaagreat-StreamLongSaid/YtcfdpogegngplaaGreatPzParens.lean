/- Joined texts: ParPure, Paren, Paren2, Ahead, Behind, ParMate, Over, Make, Par3, Low. -/
import Derived.Deep.RegionHeld3
import Derived.Laws.Rows
import Derived.Laws.OwnMore
import Derived.Test.YtcfdpogegngplaaGreatPzRanks
/- Plain laws of parentheses: excesses, the least of a run, the tree's nodes; no program is named here. -/
namespace Go.Proofs.YtcfdpogegngplaaGreat

/-- The excess ahead of a place; behind the last one it stays. -/
def ex (l : List Bool) (p : Nat) : Int := 2 * rk l 1 (min p l.length) - (min p l.length : Nat)

/-- The step at a place. -/
def stepZ (l : List Bool) (p : Nat) : Int := 2 * ((l.getD p false).toNat : Int) - 1

theorem ex_zero (l : List Bool) : ex l 0 = 0 := by simp [ex, rk_zero]

theorem ex_succ (l : List Bool) {p : Nat} (h : p < l.length) : ex l (p + 1) = ex l p + stepZ l p := by
  have := rk_succ l 1 p (.inr rfl) h
  unfold ex stepZ
  rw [Nat.min_eq_left (by omega), Nat.min_eq_left (by omega), this]
  cases l.getD p false <;> simp <;> omega

theorem ex_past (l : List Bool) {p : Nat} (h : l.length ≤ p) : ex l p = ex l l.length := by
  unfold ex; rw [Nat.min_eq_right h, Nat.min_self]

theorem stepZ_cases (l : List Bool) (p : Nat) : stepZ l p = 1 ∨ stepZ l p = -1 := by
  unfold stepZ; cases l.getD p false <;> simp

theorem ex_step (l : List Bool) (p : Nat) : ex l p - 1 ≤ ex l (p + 1) ∧ ex l (p + 1) ≤ ex l p + 1 := by
  by_cases h : p < l.length
  · have h1 := ex_succ l h
    have h2 := stepZ_cases l p
    omega
  · rw [ex_past l (p := p) (by omega), ex_past l (p := p + 1) (by omega)]; omega

/-- The least of a run, from its beginning on. -/
def lowN (l : List Bool) (a : Nat) : Nat → Int
  | 0 => 0
  | m + 1 => min (lowN l a m) (ex l (a + (m + 1)) - ex l a)

theorem lowN_le (l : List Bool) (a : Nat) : ∀ m q, q ≤ m → lowN l a m ≤ ex l (a + q) - ex l a
  | 0, q, h => by obtain rfl : q = 0 := by omega
                  simp [lowN]
  | m + 1, q, h => by
    simp only [lowN]
    by_cases hq : q = m + 1
    · subst hq; omega
    · have := lowN_le l a m q (by omega); omega

theorem lowN_hit (l : List Bool) (a : Nat) : ∀ m, ∃ q, q ≤ m ∧ lowN l a m = ex l (a + q) - ex l a
  | 0 => ⟨0, by omega, by simp [lowN]⟩
  | m + 1 => by
    simp only [lowN]
    obtain ⟨q, h1, h2⟩ := lowN_hit l a m
    rcases Int.le_total (lowN l a m) (ex l (a + (m + 1)) - ex l a) with h | h
    · exact ⟨q, by omega, by omega⟩
    · exact ⟨m + 1, by omega, by omega⟩

/-! The tree over blocks: 2 ^ h leaves. -/

def tstart (h k : Nat) : Nat := 512 * ((k - 2 ^ k.log2) * 2 ^ (h - k.log2))
def twidth (h k : Nat) : Nat := 512 * 2 ^ (h - k.log2)
def tsum (l : List Bool) (h k : Nat) : Int := ex l (tstart h k + twidth h k) - ex l (tstart h k)
def tlow (l : List Bool) (h k : Nat) : Int := lowN l (tstart h k) (twidth h k)

/-! What is looked for. -/

/-- The first place behind i whose excess is below that of i. -/
structure IsAhead (l : List Bool) (i T : Nat) : Prop where
  lt : i < T
  le : T ≤ l.length
  hit : ex l T = ex l i - 1
  above : ∀ p, i ≤ p → p < T → ex l i ≤ ex l p

theorem IsAhead.iff {l : List Bool} {i T p : Nat} (h : IsAhead l i T) (h1 : i ≤ p) (h2 : p ≤ T) : ex l p = ex l i - 1 ↔ p = T := by
  constructor
  · intro hp
    by_cases hT : p < T
    · have := h.above p h1 hT; omega
    · omega
  · rintro rfl; exact h.hit

/-- A node that stays above is passed by. -/
theorem IsAhead.pass {l : List Bool} {i T a m : Nat} (h : IsAhead l i T) (h1 : i ≤ a) : (ex l a + lowN l a m > ex l i - 1 → a + m < T ∨ T < a) ∧ (¬ ex l a + lowN l a m > ex l i - 1 → T ≤ a + m) := by
  constructor
  · intro hp
    by_cases hT : a ≤ T ∧ T ≤ a + m
    · have := lowN_le l a m (T - a) (by omega)
      rw [show a + (T - a) = T by omega, h.hit] at this
      omega
    · omega
  · intro hp
    obtain ⟨q, h2, h3⟩ := lowN_hit l a m
    by_cases hT : a + q < T
    · have := h.above (a + q) (by omega) hT; omega
    · omega

/-- The last place ahead of i whose excess is so great; between, it is above. -/
structure IsBehind (l : List Bool) (i : Nat) (want : Int) (B : Nat) : Prop where
  lt : B < i
  le : i ≤ l.length
  hit : ex l B = want
  above : ∀ p, B < p → p ≤ i → want < ex l p

theorem IsBehind.iff {l : List Bool} {i B p : Nat} {want : Int} (h : IsBehind l i want B) (h1 : B ≤ p) (h2 : p ≤ i) : ex l p = want ↔ p = B := by
  constructor
  · intro hp
    by_cases hB : B < p
    · have := h.above p hB h2; omega
    · omega
  · rintro rfl; exact h.hit

theorem IsBehind.pass {l : List Bool} {i B a m : Nat} {want : Int} (h : IsBehind l i want B) (h1 : B < a + m) (hp : ¬ ex l a + lowN l a m ≤ want) : B < a := by
  by_cases hB : a ≤ B
  · have := lowN_le l a m (B - a) (by omega)
    rw [show a + (B - a) = B by omega, h.hit] at this
    omega
  · omega

end Go.Proofs.YtcfdpogegngplaaGreat

/- The contracts of package paren: what is read off. -/
namespace Go.Proofs.YtcfdpogegngplaaGreat
open Go.RowKit

/-- Are they balanced? -/
def Bal (l : List Bool) : Prop := ex l l.length = 0 ∧ ∀ p, p ≤ l.length → 0 ≤ ex l p

/-- The cells of a Paren: its index, done, the lock, the tree, how often built. -/
def parCells (bi : Nat) (done : Bool) (lock : Int) (tv : Value) (built : Int) : Array Value :=
  #[.pointer (some ⟨bi, 0, none⟩), .int .u32 (if done then 1 else 0), .int .i32 lock, .int .u32 0, tv, .int .i64 built]

/-- How high the tree is. -/
def IsH (l : List Bool) (h : Nat) : Prop := l.length ≤ 512 * 2 ^ h ∧ ∀ j, j < h → 512 * 2 ^ j < l.length

theorem IsH.ex (l : List Bool) : ∃ h, IsH l h := by
  have h0 : ∃ h, l.length ≤ 512 * 2 ^ h := ⟨l.length, by have := Nat.lt_two_pow_self (n := l.length); omega⟩
  obtain ⟨h, hh⟩ := h0
  induction h with
  | zero => exact ⟨0, hh, fun j hj => by omega⟩
  | succ h ih =>
    by_cases hc : l.length ≤ 512 * 2 ^ h
    · exact ih hc
    · refine ⟨h + 1, hh, fun j hj => ?_⟩
      have : 2 ^ j ≤ 2 ^ h := Nat.pow_le_pow_right (by decide) (by omega)
      omega

theorem IsH.unique {l : List Bool} {h k : Nat} (a : IsH l h) (b : IsH l k) : h = k := by
  rcases Nat.lt_trichotomy h k with hl | rfl | hl
  · have := b.2 h hl; have := a.1; omega
  · rfl
  · have := a.2 k hl; have := b.1; omega

/-- The tree: none, or its nodes. -/
def TreeAt (w : World) (done : Bool) (tv : Value) (l : List Bool) : Prop :=
  if done then ∃ h g, IsH l h ∧ tv = .slice (some ⟨g, 0, none⟩) (2 * 2 ^ h) (2 * 2 ^ h) ∧ g < w.heap.size ∧ ∀ k, 1 ≤ k → k < 2 * 2 ^ h →
    w.cell? ⟨g, k * 2, none⟩ = some (.int .i64 (tsum l h k)) ∧ w.cell? ⟨g, k * 2 + 1, none⟩ = some (.int .i64 (tlow l h k))
  else tv = .slice none 0 0

theorem TreeAt.keeps {w w' : World} {done : Bool} {tv : Value} {l : List Bool} {G : Nat → Prop} (h : TreeAt w done tv l) (k : Keeps G w w') (hG : ∀ x, tv.ownBlock = some x → ¬ G x) : TreeAt w' done tv l := by
  cases done with
  | false => exact h
  | true =>
    obtain ⟨h, g, h1, rfl, hg, h2⟩ := h
    refine ⟨h, g, h1, rfl, Nat.lt_of_lt_of_le hg k.size, fun j hj hj2 => ?_⟩
    rw [World.cell?_of_block (w := w) (a := ⟨g, _, none⟩) (k.block g hg (hG g rfl)), World.cell?_of_block (w := w) (a := ⟨g, _, none⟩) (k.block g hg (hG g rfl))]
    exact h2 j hj hj2

/-- A Paren of bits l, whose index was asked at most q times; F: its blocks. -/
structure ParAt (w : World) (b : Nat) (l : List Bool) (done : Bool) (q : Nat) (F : Nat → Prop) : Prop where
  ex : ∃ bi tv FI dI asked, w.heap[b]? = some (.cells (parCells bi done 0 tv (if done then 1 else 0)) 335 (0, 0)) ∧ IdxAt w bi l dI asked FI ∧ asked ≤ q ∧
    (∀ x, FI x → F x) ∧ F b ∧ ¬ FI b ∧ (∀ k, tv.ownBlock = some k → F k ∧ ¬ FI k ∧ k ≠ b) ∧ TreeAt w done tv l
  old : ∀ k, F k → k < w.heap.size

def ParAfter (w : World) (b : Nat) (l : List Bool) (done : Bool) (q : Nat) (F : Nat → Prop) (w' : World) : Prop :=
  ParAt w' b l done q (grow F w w') ∧ Keeps F w w'

/-- What most of its methods read. -/
def PIdx (w : World) (b : Nat) (l : List Bool) : Prop := ∃ bi FI dI asked, w.cell? ⟨b, 0, none⟩ = some (.pointer (some ⟨bi, 0, none⟩)) ∧ IdxAt w bi l dI asked FI

theorem ParAt.idx {w : World} {b : Nat} {l : List Bool} {done : Bool} {q : Nat} {F : Nat → Prop} (h : ParAt w b l done q F) : PIdx w b l := by
  obtain ⟨⟨bi, tv, FI, dI, asked, hb, hI, _⟩, _⟩ := h
  exact ⟨bi, FI, dI, asked, World.cell_of_heap hb 0, hI⟩

theorem PIdx.le {w : World} {b : Nat} {l : List Bool} (h : PIdx w b l) : l.length ≤ 100000000 := by
  obtain ⟨bi, FI, dI, asked, _, hI⟩ := h
  exact hI.le

end Go.Proofs.YtcfdpogegngplaaGreat

/- The contracts of package paren: New, Excess, Size, Built, over; nil. -/
namespace Go.Proofs.YtcfdpogegngplaaGreat
open Go.RowKit

/-! A question's state, told against a world that stays. -/

theorem ParAt.mono {w : World} {b : Nat} {l : List Bool} {done : Bool} {q : Nat} {F G : Nat → Prop} (h : ParAt w b l done q F) (hG : ∀ x, F x → G x) (hold : ∀ x, G x → x < w.heap.size) : ParAt w b l done q G := by
  obtain ⟨⟨bi, tv, FI, dI, asked, hb, hI, hq, hFI, Fb, nb, htv, hT⟩, _⟩ := h
  exact ⟨⟨bi, tv, FI, dI, asked, hb, hI, hq, fun x hx => hG x (hFI x hx), hG b Fb, nb, fun k hk => ⟨hG k (htv k hk).1, (htv k hk).2⟩, hT⟩, hold⟩

theorem ParAt.more {w : World} {b : Nat} {l : List Bool} {done : Bool} {q q' : Nat} {F : Nat → Prop} (h : ParAt w b l done q F) (hq : q ≤ q') : ParAt w b l done q' F := by
  obtain ⟨⟨bi, tv, FI, dI, asked, hb, hI, hq2, r⟩, hold⟩ := h
  exact ⟨⟨bi, tv, FI, dI, asked, hb, hI, by omega, r⟩, hold⟩

theorem ParAt.keeps {w w' : World} {b : Nat} {l : List Bool} {done : Bool} {q : Nat} {F G : Nat → Prop} (h : ParAt w b l done q F) (k : Keeps G w w') (hd : ∀ x, F x → ¬ G x) : ParAt w' b l done q F := by
  obtain ⟨⟨bi, tv, FI, dI, asked, hb, hI, hq, hFI, Fb, nb, htv, hT⟩, hold⟩ := h
  exact ⟨⟨bi, tv, FI, dI, asked, k.at hb (hd b Fb), hI.keeps k (fun x hx => hd x (hFI x hx)), hq, hFI, Fb, nb, htv, hT.keeps k (fun x hx => hd x (htv x hx).1)⟩, fun x hx => Nat.lt_of_lt_of_le (hold x hx) k.size⟩

theorem ParAfter.more {wh w : World} {b : Nat} {l : List Bool} {done : Bool} {q q' : Nat} {F : Nat → Prop} (h : ParAfter wh b l done q F w) (hq : q ≤ q') : ParAfter wh b l done q' F w := ⟨h.1.more hq, h.2⟩

theorem ParAfter.trans {wh w1 w2 : World} {b : Nat} {l : List Bool} {done done' : Bool} {q q' : Nat} {F : Nat → Prop} (hF : ∀ x, F x → x < wh.heap.size) (h : ParAfter wh b l done q F w1) (k : ParAfter w1 b l done' q' (grow F wh w1) w2) : ParAfter wh b l done' q' F w2 := by
  obtain ⟨h1, h2⟩ := h
  obtain ⟨k1, k2⟩ := k
  refine ⟨k1.mono (grow_trans h2.size k2.size) (grow_old hF (Nat.le_trans h2.size k2.size)), h2.trans k2 ?_⟩
  rintro x hx (h | h)
  · exact h
  · omega

theorem ParAfter.keeps {wh w1 w2 : World} {b : Nat} {l : List Bool} {done : Bool} {q : Nat} {F G : Nat → Prop} (h : ParAfter wh b l done q F w1) (k : Keeps G w1 w2) (hG : ∀ x, x < w1.heap.size → ¬ G x) : ParAfter wh b l done q F w2 := by
  obtain ⟨h1, h2⟩ := h
  refine ⟨(h1.keeps k (fun x hx => hG x (h1.old x hx))).mono ?_ ?_, h2.trans k (fun x hx hg => absurd hg (hG x (Nat.lt_of_lt_of_le hx h2.size)))⟩
  · rintro x (h | h)
    · exact .inl h
    · exact .inr ⟨h.1, Nat.lt_of_lt_of_le h.2 k.size⟩
  · rintro x (h | h)
    · exact Nat.lt_of_lt_of_le (h1.old x (.inl h)) k.size
    · exact h.2

theorem ParAfter.idx {wh w : World} {b : Nat} {l : List Bool} {done : Bool} {q : Nat} {F : Nat → Prop} (h : ParAfter wh b l done q F w) : PIdx w b l := h.1.idx

end Go.Proofs.YtcfdpogegngplaaGreat

/- The contracts of package paren: the tree as it is read; ahead. -/
namespace Go.Proofs.YtcfdpogegngplaaGreat
open Go.RowKit

end Go.Proofs.YtcfdpogegngplaaGreat

/- The contracts of package paren: behind. -/
namespace Go.Proofs.YtcfdpogegngplaaGreat
open Go.RowKit

theorem PIdx.keeps {w w' : World} {b : Nat} {l : List Bool} (h : PIdx w b l) (k : Keeps (fun _ => False) w w') (hb : b < w.heap.size) : PIdx w' b l := by
  obtain ⟨bi, FI, dI, asd, hc0, hI⟩ := h
  refine ⟨bi, FI, dI, asd, ?_, hI.keeps k (fun _ _ h => h)⟩
  rw [World.cell?_of_block (w := w) (a := ⟨b, 0, none⟩) (k.block b hb (fun h => h))]
  exact hc0

theorem PIdx.lt {w : World} {b : Nat} {l : List Bool} (h : PIdx w b l) : b < w.heap.size := by
  obtain ⟨bi, FI, dI, asd, hc0, hI⟩ := h
  exact World.block_lt_of_cell? w ⟨b, 0, none⟩ hc0

theorem PIdx.drew {w : World} {b : Nat} {l : List Bool} (h : PIdx w b l) : PIdx w.drew b l := h.keeps ((Keeps.refl _ w).drew) h.lt
theorem PIdx.alloc {w : World} {b : Nat} {l : List Bool} (h : PIdx w b l) (o : Obj) : PIdx (w.alloc o) b l := h.keeps ((Keeps.refl _ w).alloc o) h.lt

theorem IsBehind.pos {l : List Bool} {i B : Nat} {want : Int} (h : IsBehind l i want B) : 1 ≤ i := by have := h.lt; omega

end Go.Proofs.YtcfdpogegngplaaGreat

/- Plain laws of pairs of parentheses. -/
namespace Go.Proofs.YtcfdpogegngplaaGreat

theorem ex_cnt (l : List Bool) (p : Nat) : ex l p = 2 * (cnt (l.take p) : Int) - (min p l.length : Nat) := by
  unfold ex rk ofZ
  rw [if_pos rfl, cnt_take_min l p]

theorem ex_append_le (a b : List Bool) {p : Nat} (h : p ≤ a.length) : ex (a ++ b) p = ex a p := by
  rw [ex_cnt, ex_cnt, List.take_append_of_le_length h, List.length_append]
  omega

theorem ex_append_add (a b : List Bool) (q : Nat) : ex (a ++ b) (a.length + q) = ex a a.length + ex b q := by
  rw [ex_cnt, ex_cnt, ex_cnt, List.take_append, List.take_of_length_le (l := a) (i := a.length + q) (by omega), List.take_of_length_le (l := a) (i := a.length) (by omega), show a.length + q - a.length = q by omega, cnt_append, List.length_append]
  omega

theorem bit_ex (l : List Bool) {p : Nat} (h : p < l.length) : ex l (p + 1) = if l.getD p false then ex l p + 1 else ex l p - 1 := by
  rw [ex_succ l h]
  unfold stepZ
  cases l.getD p false <;> simp <;> omega

theorem bit_up (l : List Bool) {p : Nat} (h : p < l.length) (hx : ex l p < ex l (p + 1)) : l.getD p false = true := by
  have := bit_ex l h
  cases hb : l.getD p false with
  | true => rfl
  | false => rw [hb, if_neg (by simp)] at this; omega

theorem bit_down (l : List Bool) {p : Nat} (h : p < l.length) (hx : ex l (p + 1) < ex l p) : l.getD p false = false := by
  have := bit_ex l h
  cases hb : l.getD p false with
  | false => rfl
  | true => rw [hb, if_pos rfl] at this; omega

/-- A pair: i opens, j closes. -/
structure IsPair (l : List Bool) (i j : Nat) : Prop where
  lt : i < j
  le : j < l.length
  hit : ex l (j + 1) = ex l i
  above : ∀ p, i < p → p ≤ j → ex l i < ex l p

theorem IsPair.opens {l : List Bool} {i j : Nat} (h : IsPair l i j) : l.getD i false = true ∧ ex l (i + 1) = ex l i + 1 := by
  have h1 := h.above (i + 1) (by omega) (by have := h.lt; omega)
  have h2 := bit_up l (by have := h.lt; have := h.le; omega) h1
  refine ⟨h2, ?_⟩
  have := bit_ex l (p := i) (by have := h.lt; have := h.le; omega)
  rw [h2, if_pos rfl] at this
  exact this

theorem IsPair.closes {l : List Bool} {i j : Nat} (h : IsPair l i j) : l.getD j false = false ∧ ex l (j + 1) = ex l j - 1 := by
  have h1 := h.above j h.lt (Nat.le_refl _)
  have h3 := h.hit
  have h2 := bit_down l h.le (by omega)
  refine ⟨h2, ?_⟩
  have := bit_ex l h.le
  rw [h2, if_neg (by simp)] at this
  exact this

theorem IsPair.ahead {l : List Bool} {i j : Nat} (h : IsPair l i j) : IsAhead l (i + 1) (j + 1) := by
  have h1 := h.opens.2
  refine ⟨by have := h.lt; omega, h.le, by have := h.hit; omega, fun p h2 h3 => ?_⟩
  have := h.above p (by omega) (by omega)
  omega

theorem IsPair.behind {l : List Bool} {i j : Nat} (h : IsPair l i j) : IsBehind l j (ex l (j + 1)) i :=
  ⟨h.lt, by have := h.le; omega, h.hit.symm, fun p h1 h2 => by rw [h.hit]; exact h.above p h1 h2⟩

theorem IsBehind.unique {l : List Bool} {i : Nat} {want : Int} {B C : Nat} (h : IsBehind l i want B) (k : IsBehind l i want C) : B = C := by
  rcases Nat.lt_trichotomy B C with h1 | h1 | h1
  · have := h.above C h1 (by have := k.lt; omega); have := k.hit; omega
  · exact h1
  · have := k.above B h1 (by have := h.lt; omega); have := h.hit; omega

theorem IsPair.right {l : List Bool} {i j k : Nat} (h : IsPair l i j) (h2 : IsPair l i k) : j = k := by
  have h3 := h.hit
  have h4 := h2.hit
  rcases Nat.lt_trichotomy j k with h1 | h1 | h1
  · have := h2.above (j + 1) (by have := h.lt; omega) h1; omega
  · exact h1
  · have := h.above (k + 1) (by have := h2.lt; omega) h1; omega

theorem IsPair.left {l : List Bool} {i j k : Nat} (h : IsPair l i k) (h2 : IsPair l j k) : i = j := h.behind.unique h2.behind

/-- The other one of a pair. -/
def MateOf (l : List Bool) (i m : Nat) : Prop := (l.getD i false = true ∧ IsPair l i m) ∨ (l.getD i false = false ∧ IsPair l m i)

theorem IsPair.mate_l {l : List Bool} {i j : Nat} (h : IsPair l i j) : MateOf l i j := .inl ⟨h.opens.1, h⟩
theorem IsPair.mate_r {l : List Bool} {i j : Nat} (h : IsPair l i j) : MateOf l j i := .inr ⟨h.closes.1, h⟩

theorem MateOf.symm {l : List Bool} {i m : Nat} (h : MateOf l i m) : MateOf l m i := by
  rcases h with ⟨_, h⟩ | ⟨_, h⟩
  · exact h.mate_r
  · exact h.mate_l

theorem MateOf.lt {l : List Bool} {i m : Nat} (h : MateOf l i m) : m < l.length := by
  rcases h with ⟨_, h⟩ | ⟨_, h⟩
  · exact h.le
  · have := h.lt; have := h.le; omega

theorem MateOf.unique {l : List Bool} {i m n : Nat} (h : MateOf l i m) (k : MateOf l i n) : m = n := by
  rcases h with ⟨h0, h⟩ | ⟨h0, h⟩ <;> rcases k with ⟨k0, k⟩ | ⟨k0, k⟩
  · exact h.right k
  · rw [h0] at k0; cases k0
  · rw [h0] at k0; cases k0
  · exact h.left k

/-- The first place from a on that meets a test. -/
theorem first_of (P : Nat → Prop) [DecidablePred P] (a : Nat) : ∀ d, P (a + d) → ∃ n, a ≤ n ∧ n ≤ a + d ∧ P n ∧ ∀ p, a ≤ p → p < n → ¬ P p
  | 0, h => ⟨a, Nat.le_refl _, Nat.le_refl _, h, fun p h1 h2 => by omega⟩
  | d + 1, h => by
    by_cases hc : ∃ e, e ≤ d ∧ P (a + e)
    · obtain ⟨e, he, hp⟩ := hc
      obtain ⟨n, h1, h2, h3, h4⟩ := first_of P a e hp
      exact ⟨n, h1, by omega, h3, h4⟩
    · refine ⟨a + (d + 1), by omega, Nat.le_refl _, h, fun p h1 h2 hp => hc ⟨p - a, by omega, ?_⟩⟩
      rwa [show a + (p - a) = p by omega]
termination_by d => d
decreasing_by all_goals omega

/-- The last place up to a that meets a test. -/
theorem last_of (P : Nat → Prop) [DecidablePred P] : ∀ a, P 0 → ∃ n, n ≤ a ∧ P n ∧ ∀ p, n < p → p ≤ a → ¬ P p
  | 0, h => ⟨0, Nat.le_refl _, h, fun p h1 h2 => by omega⟩
  | a + 1, h => by
    by_cases hc : P (a + 1)
    · exact ⟨a + 1, Nat.le_refl _, hc, fun p h1 h2 => by omega⟩
    · obtain ⟨n, h1, h2, h3⟩ := last_of P a h
      refine ⟨n, by omega, h2, fun p h4 h5 => ?_⟩
      by_cases hp : p = a + 1
      · rw [hp]; exact hc
      · exact h3 p h4 (by omega)

/-- The last place ahead whose excess is less by one. -/
theorem behind_ex (l : List Bool) (i : Nat) (hi : i ≤ l.length) (hx : 0 < ex l i) (w : Int) (hw : w = ex l i - 1) : ∃ B, IsBehind l i w B := by
  obtain ⟨n, h1, h2, h3⟩ := last_of (fun p => ex l p ≤ w) i (by rw [ex_zero]; omega)
  have hn : n < i := by
    rcases Nat.lt_or_ge n i with h | h
    · exact h
    · obtain rfl : n = i := by omega
      omega
  refine ⟨n, hn, hi, ?_, fun p h4 h5 => by have := h3 p h4 h5; omega⟩
  have h4 := h3 (n + 1) (by omega) hn
  have h5 := ex_step l n
  omega

theorem Bal.mate {l : List Bool} (h : Bal l) {i : Nat} (hi : i < l.length) : ∃ m, MateOf l i m := by
  have hb := bit_ex l hi
  cases hl : l.getD i false with
  | true =>
    rw [hl, if_pos rfl] at hb
    have h0 := h.2 i (by omega)
    obtain ⟨n, h1, h2, h3, h4⟩ := first_of (fun p => ex l p ≤ ex l i) (i + 1) (l.length - (i + 1)) (by
      simp only [show i + 1 + (l.length - (i + 1)) = l.length by omega, h.1]; exact h0)
    have hn : i + 1 < n := by
      rcases Nat.lt_or_ge (i + 1) n with h | h
      · exact h
      · obtain rfl : n = i + 1 := by omega
        omega
    obtain ⟨m, rfl⟩ : ∃ m, n = m + 1 := ⟨n - 1, by omega⟩
    have h5 := h4 m (by omega) (by omega)
    have h6 := ex_step l m
    refine ⟨m, .inl ⟨hl, by omega, by omega, by omega, fun p h7 h8 => by have := h4 p (by omega) (by omega); omega⟩⟩
  | false =>
    rw [hl, if_neg (by simp)] at hb
    have h0 := h.2 (i + 1) (by omega)
    obtain ⟨B, hB⟩ := behind_ex l i (by omega) (by omega) (ex l (i + 1)) (by omega)
    refine ⟨B, .inr ⟨hl, hB.lt, hi, hB.hit.symm, fun p h7 h8 => ?_⟩⟩
    rw [hB.hit]
    exact hB.above p h7 h8

/-- Where the pair around it opens; none: -1. -/
def RoundAt (l : List Bool) (o : Nat) (r : Int) : Prop := (ex l o = 0 ∧ r = -1) ∨ (0 < ex l o ∧ ∃ B : Nat, r = B ∧ IsBehind l o (ex l o - 1) B)
def RoundOf (l : List Bool) (i : Nat) (r : Int) : Prop := (l.getD i false = true ∧ RoundAt l i r) ∨ (l.getD i false = false ∧ ∃ o, IsPair l o i ∧ RoundAt l o r)

theorem RoundAt.unique {l : List Bool} {o : Nat} {r s : Int} (h : RoundAt l o r) (k : RoundAt l o s) : r = s := by
  rcases h with ⟨h0, h⟩ | ⟨h0, B, rfl, h⟩ <;> rcases k with ⟨k0, k⟩ | ⟨k0, C, rfl, k⟩
  · omega
  · omega
  · omega
  · rw [h.unique k]

theorem RoundOf.unique {l : List Bool} {i : Nat} {r s : Int} (h : RoundOf l i r) (k : RoundOf l i s) : r = s := by
  rcases h with ⟨h0, h⟩ | ⟨h0, o, h1, h⟩ <;> rcases k with ⟨k0, k⟩ | ⟨k0, p, k1, k⟩
  · exact h.unique k
  · rw [h0] at k0; cases k0
  · rw [h0] at k0; cases k0
  · rw [h1.left k1] at h; exact h.unique k

theorem Bal.roundAt {l : List Bool} (h : Bal l) {i : Nat} (hi : i ≤ l.length) : ∃ r, RoundAt l i r := by
  have h0 := h.2 i hi
  by_cases hx : ex l i = 0
  · exact ⟨-1, .inl ⟨hx, rfl⟩⟩
  · obtain ⟨B, hB⟩ := behind_ex l i hi (by omega) (ex l i - 1) rfl
    exact ⟨B, .inr ⟨by omega, B, rfl, hB⟩⟩

theorem Bal.round {l : List Bool} (h : Bal l) {i : Nat} (hi : i < l.length) : ∃ r, RoundOf l i r := by
  obtain ⟨m, hm⟩ := h.mate hi
  rcases hm with ⟨h0, hm⟩ | ⟨h0, hm⟩
  · obtain ⟨r, hr⟩ := h.roundAt (i := i) (by omega)
    exact ⟨r, .inl ⟨h0, hr⟩⟩
  · obtain ⟨r, hr⟩ := h.roundAt (i := m) (by have := hm.lt; omega)
    exact ⟨r, .inr ⟨h0, m, hm, hr⟩⟩

/-! Two behind one another; one within a pair. -/

theorem IsPair.inl {a : List Bool} (b : List Bool) {i j : Nat} (h : IsPair a i j) : IsPair (a ++ b) i j := by
  have h1 := h.lt
  have h2 := h.le
  refine ⟨h1, by simp; omega, ?_, fun p h3 h4 => ?_⟩
  · rw [ex_append_le a b h2, ex_append_le a b (by omega)]; exact h.hit
  · rw [ex_append_le a b (p := i) (by omega), ex_append_le a b (p := p) (by omega)]; exact h.above p h3 h4

theorem IsPair.inr (a : List Bool) {b : List Bool} {i j : Nat} (h : IsPair b i j) : IsPair (a ++ b) (a.length + i) (a.length + j) := by
  have h1 := h.lt
  have h2 := h.le
  refine ⟨by omega, by simp; omega, ?_, fun p h3 h4 => ?_⟩
  · rw [Nat.add_assoc, ex_append_add, ex_append_add, h.hit]
  · obtain ⟨q, rfl⟩ : ∃ q, p = a.length + q := ⟨p - a.length, by omega⟩
    rw [ex_append_add, ex_append_add]
    have := h.above q (by omega) (by omega)
    omega

theorem MateOf.inl {a : List Bool} (b : List Bool) {i m : Nat} (h : MateOf a i m) : MateOf (a ++ b) i m := by
  rcases h with ⟨_, h⟩ | ⟨_, h⟩
  · exact (h.inl b).mate_l
  · exact (h.inl b).mate_r

theorem MateOf.inr (a : List Bool) {b : List Bool} {i m : Nat} (h : MateOf b i m) : MateOf (a ++ b) (a.length + i) (a.length + m) := by
  rcases h with ⟨_, h⟩ | ⟨_, h⟩
  · exact (h.inr a).mate_l
  · exact (h.inr a).mate_r

theorem Bal.append {a b : List Bool} (h : Bal a) (k : Bal b) : Bal (a ++ b) := by
  refine ⟨by rw [List.length_append, ex_append_add, h.1, k.1]; rfl, fun p hp => ?_⟩
  rw [List.length_append] at hp
  by_cases hc : p ≤ a.length
  · rw [ex_append_le a b hc]; exact h.2 p hc
  · obtain ⟨q, rfl⟩ : ∃ q, p = a.length + q := ⟨p - a.length, by omega⟩
    rw [ex_append_add, h.1]
    have := k.2 q (by omega)
    omega

theorem ex_cons (a : List Bool) (q : Nat) : ex (true :: a) (q + 1) = 1 + ex a q := by
  have := ex_append_add [true] a q
  rw [show [true].length + q = q + 1 by simp; omega] at this
  rw [show true :: a = [true] ++ a from rfl, this]
  rfl

theorem Bal.wrap {a : List Bool} (h : Bal a) : Bal (true :: a ++ [false]) ∧ IsPair (true :: a ++ [false]) 0 (a.length + 1) := by
  have hl : (true :: a).length = a.length + 1 := by simp
  have e1 : ∀ p, p ≤ a.length + 1 → 0 < p → ex (true :: a ++ [false]) p = 1 + ex a (p - 1) := by
    intro p hp h0
    rw [ex_append_le _ _ (by rw [hl]; exact hp)]
    obtain ⟨q, rfl⟩ : ∃ q, p = q + 1 := ⟨p - 1, by omega⟩
    rw [ex_cons]
    rfl
  have e2 : ex (true :: a ++ [false]) (a.length + 1 + 1) = 0 := by
    have := ex_append_add (true :: a) [false] 1
    rw [hl, ex_cons, h.1] at this
    rw [this]
    decide
  refine ⟨⟨by simp only [List.length_append, hl, List.length_singleton]; exact e2, fun p hp => ?_⟩, ⟨by omega, by simp, by rw [e2, ex_zero], fun p h1 h2 => ?_⟩⟩
  · simp only [List.length_append, hl, List.length_singleton] at hp
    by_cases hc : p = a.length + 1 + 1
    · rw [hc, e2]; omega
    · by_cases h0 : p = 0
      · rw [h0, ex_zero]; omega
      · rw [e1 p (by omega) (by omega)]
        have := h.2 (p - 1) (by omega)
        omega
  · rw [ex_zero, e1 p h2 h1]
    have := h.2 (p - 1) (by omega)
    omega

theorem MateOf.wrap {a : List Bool} {i m : Nat} (h : MateOf a i m) : MateOf (true :: a ++ [false]) (i + 1) (m + 1) := by
  have := (h.inr [true]).inl [false]
  rw [show [true].length + i = i + 1 by simp; omega, show [true].length + m = m + 1 by simp; omega] at this
  exact this

end Go.Proofs.YtcfdpogegngplaaGreat

/- The contracts of package paren: over. -/
namespace Go.Proofs.YtcfdpogegngplaaGreat
open Go.RowKit

end Go.Proofs.YtcfdpogegngplaaGreat

/- The contract of package paren's make: the tree. -/
namespace Go.Proofs.YtcfdpogegngplaaGreat
open Go.RowKit

theorem Keeps.cellF {w w' : World} (k : Keeps (fun _ => False) w w') {a : Addr} {v : Value} (h : w.cell? a = some v) : w'.cell? a = some v := by
  rw [World.cell?_of_block (w := w) (k.block a.block (World.block_lt_of_cell? _ _ h) (fun h => h))]
  exact h

/-- Nodes that are laid. -/
def NodesAt (w : World) (g L : Nat) (sm lo : Nat → Int) (S : Nat → Prop) : Prop :=
  ∃ cs : Array Value, w.heap[g]? = some (.cells cs 373 (0, 0)) ∧ cs.size = 4 * L ∧ ∀ k, S k → cs[k * 2]? = some (.int .i64 (sm k)) ∧ cs[k * 2 + 1]? = some (.int .i64 (lo k))

theorem NodesAt.keeps {w w' : World} {F : Nat → Prop} {g L : Nat} {sm lo : Nat → Int} {S : Nat → Prop} (h : NodesAt w g L sm lo S) (k : Keeps F w w') (hF : ¬ F g) : NodesAt w' g L sm lo S := by
  obtain ⟨cs, h1, h2⟩ := h
  exact ⟨cs, k.at h1 hF, h2⟩

theorem NodesAt.lt {w : World} {g L : Nat} {sm lo : Nat → Int} {S : Nat → Prop} (h : NodesAt w g L sm lo S) : g < w.heap.size := by
  obtain ⟨cs, h1, h2⟩ := h
  exact lt_of_block h1

theorem NodesAt.set {w : World} {g L : Nat} {sm lo : Nat → Int} {S T : Nat → Prop} (h : NodesAt w g L sm lo S) (k : Nat) (hk : k < 2 * L) (s l : Int) (hs : s = sm k) (hl : l = lo k) (hT : ∀ j, T j → S j ∨ j = k) :
    NodesAt ((w.setCell ⟨g, k * 2, none⟩ (.int .i64 s)).setCell ⟨g, k * 2 + 1, none⟩ (.int .i64 l)) g L sm lo T := by
  obtain ⟨cs, h1, h2, h3⟩ := h
  subst hs hl
  refine ⟨_, heap_setCell_same (heap_setCell_same h1 _ _) _ _, by simpa using h2, fun j hj => ?_⟩
  simp only [Array.getElem?_setIfInBounds, Array.size_setIfInBounds]
  by_cases hjk : j = k
  · subst hjk
    rw [if_neg (by omega), if_pos rfl, if_pos (by omega), if_pos rfl, if_pos (by omega)]
    exact ⟨rfl, rfl⟩
  · rw [if_neg (by omega), if_neg (by omega), if_neg (by omega), if_neg (by omega)]
    rcases hT j hj with h | h
    · exact h3 j h
    · exact absurd h hjk

theorem NodesAt.there {w : World} {g L : Nat} {sm lo : Nat → Int} {S : Nat → Prop} (h : NodesAt w g L sm lo S) (k : Nat) (hk : k < 2 * L) :
    ∃ u v, w.cell? ⟨g, k * 2, none⟩ = some u ∧ w.cell? ⟨g, k * 2 + 1, none⟩ = some v ∧ w.frozen? ⟨g, k * 2, none⟩ = false ∧ w.frozen? ⟨g, k * 2 + 1, none⟩ = false := by
  obtain ⟨cs, h1, h2, _⟩ := h
  refine ⟨cs[k * 2], cs[k * 2 + 1], ?_, ?_, World.free_of_heap h1 _, World.free_of_heap h1 _⟩
  · rw [World.cell_of_heap h1]; exact Array.getElem?_eq_getElem (by omega)
  · rw [World.cell_of_heap h1]; exact Array.getElem?_eq_getElem (by omega)

/-- What make has laid. -/
def MkAt (w : World) (b bi g L : Nat) (sm lo : Nat → Int) (S : Nat → Prop) (wr : World) : Prop :=
  wr.heap[b]? = some (.cells (parCells bi false 1 (.slice (some ⟨g, 0, none⟩) (2 * L) (2 * L)) 1) 335 (0, 0)) ∧ w.heap.size ≤ g ∧ NodesAt wr g L sm lo S ∧ Keeps (fun k => k = b) w wr

theorem MkAt.keeps {w w1 w2 : World} {b bi g L : Nat} {sm lo : Nat → Int} {S : Nat → Prop} (h : MkAt w b bi g L sm lo S w1) (k : Keeps (fun _ => False) w1 w2) : MkAt w b bi g L sm lo S w2 :=
  ⟨k.at h.1 (fun h => h), h.2.1, h.2.2.1.keeps k (fun h => h), h.2.2.2.trans k (fun _ _ h => h.elim)⟩

theorem MkAt.set {w w1 : World} {b bi g L : Nat} {sm lo : Nat → Int} {S T : Nat → Prop} (h : MkAt w b bi g L sm lo S w1) (hb : b < w.heap.size) (k : Nat) (hk : k < 2 * L) (s l : Int) (hs : s = sm k) (hl : l = lo k) (hT : ∀ j, T j → S j ∨ j = k) :
    MkAt w b bi g L sm lo T ((w1.setCell ⟨g, k * 2, none⟩ (.int .i64 s)).setCell ⟨g, k * 2 + 1, none⟩ (.int .i64 l)) := by
  obtain ⟨h1, h2, h3, h4⟩ := h
  have k2 : Keeps (fun x => x = g) w1 ((w1.setCell ⟨g, k * 2, none⟩ (.int .i64 s)).setCell ⟨g, k * 2 + 1, none⟩ (.int .i64 l)) :=
    ((Keeps.refl (fun x => x = g) w1).setCell (p := ⟨g, k * 2, none⟩) (.inl rfl) _).setCell (p := ⟨g, k * 2 + 1, none⟩) (.inl rfl) _
  refine ⟨k2.at h1 (by omega), h2, h3.set k hk s l hs hl hT, h4.trans k2 (fun _ _ h => by omega)⟩

theorem MkAt.mono {w wr : World} {b bi g L : Nat} {sm lo : Nat → Int} {S T : Nat → Prop} (h : MkAt w b bi g L sm lo S wr) (hT : ∀ k, T k → S k) : MkAt w b bi g L sm lo T wr := by
  obtain ⟨h1, h2, ⟨cs, h3, h4, h5⟩, h6⟩ := h
  exact ⟨h1, h2, ⟨cs, h3, h4, fun k hk => h5 k (hT k hk)⟩, h6⟩

theorem MkAt.idx {w wr : World} {b bi g L : Nat} {l : List Bool} {sm lo : Nat → Int} {S : Nat → Prop} {FI : Nat → Prop} {dI : Bool} {asked : Nat} (h : MkAt w b bi g L sm lo S wr) (hI : IdxAt w bi l dI asked FI) (hb : ¬ FI b) : PIdx wr b l :=
  ⟨bi, FI, dI, asked, World.cell_of_heap h.1 0, hI.keeps h.2.2.2 (fun _ hx h => hb (h ▸ hx))⟩

/-- The block that is summed up. -/
def XAt (wB : World) (s lo : Int) (wr : World) : Prop := wr.heap[wB.heap.size]? = some (.cells #[.int .i64 s, .int .i64 lo] 373 (0, 0)) ∧ Keeps (fun _ => False) wB wr

theorem XAt.set {wB wr : World} {s lo : Int} (h : XAt wB s lo wr) (s' lo' : Int) : XAt wB s' lo' (((wr.setCell ⟨wB.heap.size, 0, none⟩ (.int .i64 s')).setCell ⟨wB.heap.size, 1, none⟩ (.int .i64 lo')).drew) := by
  obtain ⟨h1, h2⟩ := h
  refine ⟨?_, ((h2.setCell (p := ⟨wB.heap.size, 0, none⟩) (.inr (Nat.le_refl _)) _).setCell (p := ⟨wB.heap.size, 1, none⟩) (.inr (Nat.le_refl _)) _).drew⟩
  exact (heap_setCell_same (heap_setCell_same h1 0 _) 1 _)

theorem XAt.start (wB : World) : XAt wB 0 0 (wB.alloc (.cells #[.int .i64 0, .int .i64 0] 373)) := ⟨heap_alloc_new wB _, (Keeps.refl _ wB).alloc _⟩

end Go.Proofs.YtcfdpogegngplaaGreat

/- The contracts of package paren: place, Mate, Round. -/
namespace Go.Proofs.YtcfdpogegngplaaGreat
open Go.RowKit

end Go.Proofs.YtcfdpogegngplaaGreat

/- The contract of package paren: Low. -/
namespace Go.Proofs.YtcfdpogegngplaaGreat
open Go.RowKit

end Go.Proofs.YtcfdpogegngplaaGreat
