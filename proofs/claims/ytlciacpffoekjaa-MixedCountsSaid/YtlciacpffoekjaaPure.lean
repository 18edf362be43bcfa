/- Plain arithmetic of bits in words: no program is named here. -/
import Derived.RowKit
namespace Go.Proofs.Ytlciacpffoekjaa

/-- Bits as a number, the first one the lowest. -/
def bval : List Bool → Nat
  | [] => 0
  | b :: l => b.toNat + 2 * bval l

theorem bval_lt (l : List Bool) : bval l < 2 ^ l.length := by
  induction l with
  | nil => simp [bval]
  | cons b l ih => simp only [bval, List.length_cons, Nat.pow_succ]; cases b <;> simp <;> omega

theorem bval_snoc (l : List Bool) (b : Bool) : bval (l ++ [b]) = bval l + b.toNat * 2 ^ l.length := by
  induction l with
  | nil => simp [bval]
  | cons c l ih =>
    simp only [List.cons_append, bval, ih, List.length_cons, Nat.pow_succ, Nat.mul_add]
    have : b.toNat * (2 ^ l.length * 2) = 2 * (b.toNat * 2 ^ l.length) := by rw [← Nat.mul_assoc, Nat.mul_comm]
    omega

theorem bval_bit (l : List Bool) (i : Nat) : bval l / 2 ^ i % 2 = (l.getD i false).toNat := by
  induction l generalizing i with
  | nil => simp [bval]
  | cons b l ih =>
    cases i with
    | zero => simp only [bval, Nat.pow_zero, Nat.div_one, List.getD_cons_zero]; cases b <;> simp <;> omega
    | succ i =>
      simp only [bval, List.getD_cons_succ]
      rw [← ih i, Nat.pow_succ, Nat.mul_comm (2 ^ i) 2, ← Nat.div_div_eq_div_mul]
      congr 2
      cases b <;> simp <;> omega

/-- The k-th word of bits. -/
def wordAt (l : List Bool) (k : Nat) : Nat := bval ((l.drop (64 * k)).take 64)
def words (l : List Bool) : List Nat := (List.range ((l.length + 63) / 64)).map (wordAt l)

theorem words_length (l : List Bool) : (words l).length = (l.length + 63) / 64 := by simp [words]

theorem words_get {l : List Bool} {k : Nat} (h : k < (l.length + 63) / 64) : (words l)[k]? = some (wordAt l k) := by
  simp [words, h]

theorem wordAt_lt (l : List Bool) (k : Nat) : wordAt l k < 18446744073709551616 := by
  have h := bval_lt ((l.drop (64 * k)).take 64)
  have h2 : ((l.drop (64 * k)).take 64).length ≤ 64 := List.length_take_le _ _
  have h3 : 2 ^ ((l.drop (64 * k)).take 64).length ≤ 2 ^ 64 := Nat.pow_le_pow_right (by decide) h2
  unfold wordAt
  omega

theorem wordAt_bit (l : List Bool) (i : Nat) : wordAt l (i / 64) / 2 ^ (i % 64) % 2 = (l.getD i false).toNat := by
  unfold wordAt
  rw [bval_bit]
  simp only [List.getD_eq_getElem?_getD, List.getElem?_take, List.getElem?_drop]
  rw [if_pos (Nat.mod_lt _ (by decide)), show 64 * (i / 64) + i % 64 = i by omega]

theorem wordAt_small {l : List Bool} (r : Nat) (hr : r = l.length % 64) : wordAt l (l.length / 64) < 2 ^ r := by
  have h := bval_lt ((l.drop (64 * (l.length / 64))).take 64)
  have h2 : ((l.drop (64 * (l.length / 64))).take 64).length = r := by simp; omega
  rw [h2] at h
  exact h

theorem wordAt_snoc_lt (l : List Bool) (b : Bool) {k : Nat} (h : k < l.length / 64) : wordAt (l ++ [b]) k = wordAt l k := by
  unfold wordAt
  congr 1
  rw [List.drop_append_of_le_length (by omega), List.take_append_of_le_length (by simp; omega)]

theorem wordAt_snoc (l : List Bool) (b : Bool) : wordAt (l ++ [b]) (l.length / 64) = wordAt l (l.length / 64) + b.toNat * 2 ^ (l.length % 64) := by
  unfold wordAt
  rw [List.drop_append_of_le_length (by omega), List.take_of_length_le (by simp; omega), bval_snoc, List.take_of_length_le (by simp; omega)]
  congr 3
  simp; omega

/-- What 'add' lays ahead: a word more where the words are full. -/
def padded (l : List Bool) : List Nat := if l.length % 64 = 0 then words l ++ [0] else words l

theorem padded_length (l : List Bool) : (padded l).length = l.length / 64 + 1 := by
  unfold padded
  split <;> simp [words_length] <;> omega

theorem padded_get (l : List Bool) : (padded l)[l.length / 64]? = some (wordAt l (l.length / 64)) := by
  unfold padded
  split
  · rename_i h
    rw [List.getElem?_append_right (by rw [words_length]; omega), words_length, show l.length / 64 - (l.length + 63) / 64 = 0 by omega]
    have := wordAt_small (l := l) 0 h.symm
    simp at this
    simp [this]
  · exact words_get (by omega)

theorem or_small {x r : Nat} (hx : x < 2 ^ r) (b : Bool) : x ||| (b.toNat * 2 ^ r) = x + b.toNat * 2 ^ r := by
  have h := Nat.two_pow_add_eq_or_of_lt hx b.toNat
  rw [Nat.mul_comm, Nat.or_comm, ← h, Nat.add_comm]

theorem words_snoc (l : List Bool) (b : Bool) : words (l ++ [b]) = (padded l).set (l.length / 64) (wordAt l (l.length / 64) ||| (b.toNat * 2 ^ (l.length % 64))) := by
  rw [or_small (wordAt_small _ rfl), ← wordAt_snoc]
  apply List.ext_getElem?
  intro k
  rw [List.getElem?_set]
  have hn : (l ++ [b]).length = l.length + 1 := by simp
  by_cases hk : l.length / 64 = k
  · subst hk
    rw [if_pos rfl, if_pos (by rw [padded_length]; omega)]
    exact words_get (by rw [hn]; omega)
  · rw [if_neg hk]
    by_cases hlt : k < l.length / 64
    · rw [words_get (by rw [hn]; omega), wordAt_snoc_lt l b hlt]
      unfold padded
      split
      · rw [List.getElem?_append_left (by rw [words_length]; omega), words_get (by omega)]
      · rw [words_get (by omega)]
    · rw [List.getElem?_eq_none (by rw [words_length, hn]; omega), List.getElem?_eq_none (by rw [padded_length]; omega)]

end Go.Proofs.Ytlciacpffoekjaa
