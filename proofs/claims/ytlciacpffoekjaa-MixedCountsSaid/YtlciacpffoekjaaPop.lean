/- The count of ones of a word, as math/bits reckons it: plain arithmetic, no program is named. -/
import Derived.Test.YtlciacpffoekjaaPure
namespace Go.Proofs.Ytlciacpffoekjaa

/-- Bytes as a number. -/
def bytesVal : List Nat → Nat
  | [] => 0
  | b :: l => b + 256 * bytesVal l

theorem and_byte (b c y m : Nat) (hb : b < 256) (hc : c < 256) : (b + 256 * y) &&& (c + 256 * m) = (b &&& c) + 256 * (y &&& m) := by
  have h1 : b + 256 * y = 2 ^ 8 * y + b := by omega
  have h2 : c + 256 * m = 2 ^ 8 * m + c := by omega
  have hbc : b &&& c < 2 ^ 8 := Nat.and_lt_two_pow _ (by omega)
  rw [h1, h2]
  apply Nat.eq_of_testBit_eq
  intro i
  rw [show (b &&& c) + 256 * (y &&& m) = 2 ^ 8 * (y &&& m) + (b &&& c) by omega, Nat.testBit_and, Nat.testBit_two_pow_mul_add _ (by omega), Nat.testBit_two_pow_mul_add _ (by omega), Nat.testBit_two_pow_mul_add _ hbc]
  split <;> simp [Nat.testBit_and]

def st1 (m x : Nat) : Nat := ((x / 2) &&& m) + (x &&& m)
def st2 (m x : Nat) : Nat := ((x / 4) &&& m) + (x &&& m)
def st3 (m x : Nat) : Nat := (x / 16 + x) &&& m

theorem st1_low : ∀ b, b < 256 → ∀ c, c < 2 → (b / 2 + 128 * c) &&& 85 = (b / 2) &&& 85 := by decide +kernel
theorem st2_low : ∀ b, b < 256 → ∀ c, c < 4 → (b / 4 + 64 * c) &&& 51 = (b / 4) &&& 51 := by decide +kernel
theorem st1_lt : ∀ b, b < 256 → st1 85 b < 256 := by decide +kernel
theorem st2_lt : ∀ b, b < 256 → st2 51 (st1 85 b) < 256 ∧ st2 51 (st1 85 b) % 16 ≤ 4 ∧ st2 51 (st1 85 b) / 16 ≤ 4 := by decide +kernel
theorem st3_low : ∀ b, b < 256 → ∀ c, c ≤ 4 → b % 16 ≤ 4 → b / 16 ≤ 4 → (b / 16 + 16 * c + b) &&& 15 = st3 15 b := by decide +kernel

theorem st1_bytes (bs : List Nat) (h : ∀ b ∈ bs, b < 256) : st1 (bytesVal (bs.map fun _ => 85)) (bytesVal bs) = bytesVal (bs.map (st1 85)) := by
  induction bs with
  | nil => simp [bytesVal, st1]
  | cons b l ih =>
    have hb := h b (by simp)
    have ih := ih (fun c hc => h c (by simp [hc]))
    simp only [List.map_cons, bytesVal]
    generalize bytesVal l = y at *
    generalize bytesVal (l.map fun _ => 85) = m at *
    generalize bytesVal (l.map (st1 85)) = r at *
    unfold st1 at ih ⊢
    have e : (b + 256 * y) / 2 = (b / 2 + 128 * (y % 2)) + 256 * (y / 2) := by omega
    rw [e, and_byte _ _ _ _ (by omega) (by decide), and_byte _ _ _ _ hb (by decide), st1_low b hb _ (Nat.mod_lt _ (by decide))]
    omega

theorem st2_bytes (bs : List Nat) (h : ∀ b ∈ bs, b < 256) : st2 (bytesVal (bs.map fun _ => 51)) (bytesVal bs) = bytesVal (bs.map (st2 51)) := by
  induction bs with
  | nil => simp [bytesVal, st2]
  | cons b l ih =>
    have hb := h b (by simp)
    have ih := ih (fun c hc => h c (by simp [hc]))
    simp only [List.map_cons, bytesVal]
    generalize bytesVal l = y at *
    generalize bytesVal (l.map fun _ => 51) = m at *
    generalize bytesVal (l.map (st2 51)) = r at *
    unfold st2 at ih ⊢
    have e : (b + 256 * y) / 4 = (b / 4 + 64 * (y % 4)) + 256 * (y / 4) := by omega
    rw [e, and_byte _ _ _ _ (by omega) (by decide), and_byte _ _ _ _ hb (by decide), st2_low b hb _ (Nat.mod_lt _ (by decide))]
    omega

theorem low_nibble (bs : List Nat) (h : ∀ b ∈ bs, b < 256 ∧ b % 16 ≤ 4 ∧ b / 16 ≤ 4) : bytesVal bs % 16 ≤ 4 := by
  cases bs with
  | nil => simp [bytesVal]
  | cons b l => have := h b (by simp); simp only [bytesVal]; omega

theorem st3_bytes (bs : List Nat) (h : ∀ b ∈ bs, b < 256 ∧ b % 16 ≤ 4 ∧ b / 16 ≤ 4) : st3 (bytesVal (bs.map fun _ => 15)) (bytesVal bs) = bytesVal (bs.map (st3 15)) := by
  induction bs with
  | nil => simp [bytesVal, st3]
  | cons b l ih =>
    have hb := h b (by simp)
    have hl := low_nibble l (fun c hc => h c (by simp [hc]))
    have ih := ih (fun c hc => h c (by simp [hc]))
    simp only [List.map_cons, bytesVal]
    generalize bytesVal l = y at *
    generalize bytesVal (l.map fun _ => 15) = m at *
    generalize bytesVal (l.map (st3 15)) = r at *
    have e : (b + 256 * y) / 16 + (b + 256 * y) = (b / 16 + 16 * (y % 16) + b) + 256 * (y / 16 + y) := by omega
    rw [show st3 (15 + 256 * m) (b + 256 * y) = ((b + 256 * y) / 16 + (b + 256 * y)) &&& (15 + 256 * m) from rfl, e, and_byte _ _ _ _ (by omega) (by decide), st3_low b hb.1 _ hl hb.2.1 hb.2.2]
    rw [show (y / 16 + y) &&& m = st3 m y from rfl, ih]

/-- The ones of a byte. -/
def pop8 (b : Nat) : Nat := st3 15 (st2 51 (st1 85 b))
theorem pop8_le : ∀ b, b < 256 → pop8 b ≤ 8 := by decide +kernel

theorem sum_fits (q0 q1 q2 q3 q4 q5 q6 q7 : Nat) (p0 : q0 ≤ 8) (p1 : q1 ≤ 8) (p2 : q2 ≤ 8) (p3 : q3 ≤ 8) (p4 : q4 ≤ 8) (p5 : q5 ≤ 8) (p6 : q6 ≤ 8) (p7 : q7 ≤ 8) :
    q0 + 256 * (q1 + 256 * (q2 + 256 * (q3 + 256 * (q4 + 256 * (q5 + 256 * (q6 + 256 * (q7 + 256 * 0))))))) ≤ 578721382704613384 := by
  have st : ∀ q Z M : Nat, q ≤ 8 → Z ≤ M → q + 256 * Z ≤ 8 + 256 * M := fun q Z M h1 h2 => by omega
  exact st q0 _ 2260630401189896 p0 (st q1 _ 8830587504648 p1 (st q2 _ 34494482440 p2 (st q3 _ 134744072 p3 (st q4 _ 526344 p4 (st q5 _ 2056 p5 (st q6 _ 8 p6 (by omega)))))))

theorem sum_adds (q0 q1 q2 q3 q4 q5 q6 q7 a : Nat) (p0 : q0 ≤ 8) (p1 : q1 ≤ 8) (p2 : q2 ≤ 8) (p3 : q3 ≤ 8) (p4 : q4 ≤ 8) (p5 : q5 ≤ 8) (p6 : q6 ≤ 8) (p7 : q7 ≤ 8)
    (ha : a = q0 + 256 * (q1 + 256 * (q2 + 256 * (q3 + 256 * (q4 + 256 * (q5 + 256 * (q6 + 256 * (q7 + 256 * 0)))))))) :
    (a + a / 256 + (a + a / 256) / 65536 + (a + a / 256 + (a + a / 256) / 65536) / 4294967296) % 128 = q0 + q1 + q2 + q3 + q4 + q5 + q6 + q7 := by
  have d1 : ∀ s Z, s < 256 → (s + 256 * Z) / 256 = Z := fun s Z h => by omega
  have d2 : ∀ s0 s1 Z, s0 < 256 → s1 < 256 → (s0 + 256 * (s1 + 256 * Z)) / 65536 = Z := fun s0 s1 Z h0 h1 => by omega
  have d4 : ∀ s0 s1 s2 s3 Z, s0 < 256 → s1 < 256 → s2 < 256 → s3 < 256 → (s0 + 256 * (s1 + 256 * (s2 + 256 * (s3 + 256 * Z)))) / 4294967296 = Z := fun s0 s1 s2 s3 Z h0 h1 h2 h3 => by omega
  have e1 : a + a / 256 = (q0 + q1) + 256 * ((q1 + q2) + 256 * ((q2 + q3) + 256 * ((q3 + q4) + 256 * ((q4 + q5) + 256 * ((q5 + q6) + 256 * ((q6 + q7) + 256 * q7)))))) := by
    rw [ha, d1 q0 _ (by omega)]; omega
  rw [e1]
  clear e1 ha
  have e2 : (q0 + q1) + 256 * ((q1 + q2) + 256 * ((q2 + q3) + 256 * ((q3 + q4) + 256 * ((q4 + q5) + 256 * ((q5 + q6) + 256 * ((q6 + q7) + 256 * q7)))))) +
      ((q0 + q1) + 256 * ((q1 + q2) + 256 * ((q2 + q3) + 256 * ((q3 + q4) + 256 * ((q4 + q5) + 256 * ((q5 + q6) + 256 * ((q6 + q7) + 256 * q7))))))) / 65536
      = (q0 + q1 + q2 + q3) + 256 * ((q1 + q2 + q3 + q4) + 256 * ((q2 + q3 + q4 + q5) + 256 * ((q3 + q4 + q5 + q6) + 256 * ((q4 + q5 + q6 + q7) + 256 * ((q5 + q6 + q7) + 256 * ((q6 + q7) + 256 * q7)))))) := by
    rw [d2 _ _ _ (by omega) (by omega)]; omega
  rw [e2, d4 _ _ _ _ _ (by omega) (by omega) (by omega) (by omega)]
  clear d1 d2 d4 e2
  generalize (q5 + q6 + q7) + 256 * ((q6 + q7) + 256 * q7) = V
  omega

/-- What OnesCount64 reckons, the wraps left out. -/
def swar (x : Nat) : Nat :=
  let a := st3 1085102592571150095 (st2 3689348814741910323 (st1 6148914691236517205 x))
  let b := a + a / 256
  let c := b + b / 65536
  (c + c / 4294967296) % 128

theorem swar_bytes (b0 b1 b2 b3 b4 b5 b6 b7 : Nat) (h0 : b0 < 256) (h1 : b1 < 256) (h2 : b2 < 256) (h3 : b3 < 256) (h4 : b4 < 256) (h5 : b5 < 256) (h6 : b6 < 256) (h7 : b7 < 256) :
    swar (bytesVal [b0, b1, b2, b3, b4, b5, b6, b7]) = pop8 b0 + pop8 b1 + pop8 b2 + pop8 b3 + pop8 b4 + pop8 b5 + pop8 b6 + pop8 b7 ∧
    st3 1085102592571150095 (st2 3689348814741910323 (st1 6148914691236517205 (bytesVal [b0, b1, b2, b3, b4, b5, b6, b7]))) ≤ 578721382704613384 := by
  have hb : ∀ b ∈ [b0, b1, b2, b3, b4, b5, b6, b7], b < 256 := by simp; omega
  have e1 := st1_bytes _ hb
  have e2 := st2_bytes ([b0, b1, b2, b3, b4, b5, b6, b7].map (st1 85)) (by
    intro c hc
    obtain ⟨b, hb', rfl⟩ := List.mem_map.1 hc
    exact st1_lt b (hb b hb'))
  have e3 := st3_bytes (([b0, b1, b2, b3, b4, b5, b6, b7].map (st1 85)).map (st2 51)) (by
    intro c hc
    simp only [List.map_map, List.mem_map] at hc
    obtain ⟨b, hb', rfl⟩ := hc
    exact st2_lt b (hb b hb'))
  have m1 : bytesVal ([b0, b1, b2, b3, b4, b5, b6, b7].map fun _ => 85) = 6148914691236517205 := by simp [bytesVal]
  have m2 : bytesVal (([b0, b1, b2, b3, b4, b5, b6, b7].map (st1 85)).map fun _ => 51) = 3689348814741910323 := by simp [bytesVal]
  have m3 : bytesVal ((([b0, b1, b2, b3, b4, b5, b6, b7].map (st1 85)).map (st2 51)).map fun _ => 15) = 1085102592571150095 := by simp [bytesVal]
  rw [m1] at e1
  rw [m2] at e2
  rw [m3] at e3
  have p0 := pop8_le b0 h0
  have p1 := pop8_le b1 h1
  have p2 := pop8_le b2 h2
  have p3 := pop8_le b3 h3
  have p4 := pop8_le b4 h4
  have p5 := pop8_le b5 h5
  have p6 := pop8_le b6 h6
  have p7 := pop8_le b7 h7
  have ha : st3 1085102592571150095 (st2 3689348814741910323 (st1 6148914691236517205 (bytesVal [b0, b1, b2, b3, b4, b5, b6, b7]))) =
      pop8 b0 + 256 * (pop8 b1 + 256 * (pop8 b2 + 256 * (pop8 b3 + 256 * (pop8 b4 + 256 * (pop8 b5 + 256 * (pop8 b6 + 256 * (pop8 b7 + 256 * 0))))))) := by
    rw [e1, e2, e3]
    rfl
  constructor
  · unfold swar
    exact sum_adds _ _ _ _ _ _ _ _ _ p0 p1 p2 p3 p4 p5 p6 p7 ha
  · rw [ha]
    exact sum_fits _ _ _ _ _ _ _ _ p0 p1 p2 p3 p4 p5 p6 p7

/-- How many are set. -/
def cnt : List Bool → Nat
  | [] => 0
  | b :: l => b.toNat + cnt l

theorem cnt_append (a b : List Bool) : cnt (a ++ b) = cnt a + cnt b := by
  induction a with
  | nil => simp [cnt]
  | cons x l ih => simp only [List.cons_append, cnt, ih]; omega

theorem cnt_le (l : List Bool) : cnt l ≤ l.length := by
  induction l with
  | nil => simp [cnt]
  | cons x l ih => simp only [cnt, List.length_cons]; cases x <;> simp <;> omega

theorem pop8_bits : ∀ b, b < 256 → pop8 b = b / 1 % 2 + b / 2 % 2 + b / 4 % 2 + b / 8 % 2 + b / 16 % 2 + b / 32 % 2 + b / 64 % 2 + b / 128 % 2 := by decide +kernel

theorem cnt_eight (l : List Bool) (h : l.length ≤ 8) : cnt l = (l.getD 0 false).toNat + (l.getD 1 false).toNat + (l.getD 2 false).toNat + (l.getD 3 false).toNat + (l.getD 4 false).toNat + (l.getD 5 false).toNat + (l.getD 6 false).toNat + (l.getD 7 false).toNat := by
  match l, h with
  | [], _ => simp [cnt]
  | [a], _ => simp [cnt]
  | [a, b], _ => simp [cnt]
  | [a, b, c], _ => simp [cnt]; omega
  | [a, b, c, d], _ => simp [cnt]; omega
  | [a, b, c, d, e], _ => simp [cnt]; omega
  | [a, b, c, d, e, f], _ => simp [cnt]; omega
  | [a, b, c, d, e, f, g], _ => simp [cnt]; omega
  | [a, b, c, d, e, f, g, i], _ => simp [cnt]; omega
  | a :: b :: c :: d :: e :: f :: g :: i :: j :: k, h => simp at h

theorem pop8_cnt (l : List Bool) (h : l.length ≤ 8) : pop8 (bval l) = cnt l := by
  have hb : bval l < 256 := by
    have h1 := bval_lt l
    have h2 : 2 ^ l.length ≤ 2 ^ 8 := Nat.pow_le_pow_right (by decide) h
    omega
  rw [pop8_bits _ hb, cnt_eight l h, ← bval_bit, ← bval_bit, ← bval_bit, ← bval_bit, ← bval_bit, ← bval_bit, ← bval_bit, ← bval_bit]

theorem bval_split (l : List Bool) : bval l = bval (l.take 8) + 256 * bval (l.drop 8) := by
  match l with
  | [] => simp [bval]
  | [a] => simp [bval]
  | [a, b] => simp [bval]
  | [a, b, c] => simp [bval]
  | [a, b, c, d] => simp [bval]
  | [a, b, c, d, e] => simp [bval]
  | [a, b, c, d, e, f] => simp [bval]
  | [a, b, c, d, e, f, g] => simp [bval]
  | a :: b :: c :: d :: e :: f :: g :: i :: k => simp [bval]; omega

theorem cnt_split (l : List Bool) : cnt l = cnt (l.take 8) + cnt (l.drop 8) := by
  rw [← cnt_append, List.take_append_drop]

/-- The bits of a word are counted. -/
theorem swar_cnt (l : List Bool) (h : l.length ≤ 64) : swar (bval l) = cnt l ∧ st3 1085102592571150095 (st2 3689348814741910323 (st1 6148914691236517205 (bval l))) ≤ 578721382704613384 := by
  have hlt : ∀ m : List Bool, bval (m.take 8) < 256 := fun m => by
    have h1 := bval_lt (m.take 8)
    have h2 : 2 ^ (m.take 8).length ≤ 2 ^ 8 := Nat.pow_le_pow_right (by decide) (List.length_take_le _ _)
    omega
  have hc : ∀ m : List Bool, pop8 (bval (m.take 8)) = cnt (m.take 8) := fun m => pop8_cnt _ (List.length_take_le _ _)
  obtain ⟨l0, hl0⟩ : ∃ l0, l0 = l := ⟨_, rfl⟩
  obtain ⟨l1, hl1⟩ : ∃ l1, l1 = l0.drop 8 := ⟨_, rfl⟩
  obtain ⟨l2, hl2⟩ : ∃ l2, l2 = l1.drop 8 := ⟨_, rfl⟩
  obtain ⟨l3, hl3⟩ : ∃ l3, l3 = l2.drop 8 := ⟨_, rfl⟩
  obtain ⟨l4, hl4⟩ : ∃ l4, l4 = l3.drop 8 := ⟨_, rfl⟩
  obtain ⟨l5, hl5⟩ : ∃ l5, l5 = l4.drop 8 := ⟨_, rfl⟩
  obtain ⟨l6, hl6⟩ : ∃ l6, l6 = l5.drop 8 := ⟨_, rfl⟩
  obtain ⟨l7, hl7⟩ : ∃ l7, l7 = l6.drop 8 := ⟨_, rfl⟩
  have h8 : l7.drop 8 = [] := by
    apply List.drop_eq_nil_of_le
    rw [hl7, hl6, hl5, hl4, hl3, hl2, hl1, hl0]
    simp
    omega
  have hv : bval l = bytesVal [bval (l0.take 8), bval (l1.take 8), bval (l2.take 8), bval (l3.take 8), bval (l4.take 8), bval (l5.take 8), bval (l6.take 8), bval (l7.take 8)] := by
    simp only [bytesVal]
    have e7 := bval_split l7
    rw [h8] at e7
    have e6 := bval_split l6
    rw [← hl7] at e6
    have e5 := bval_split l5
    rw [← hl6] at e5
    have e4 := bval_split l4
    rw [← hl5] at e4
    have e3 := bval_split l3
    rw [← hl4] at e3
    have e2 := bval_split l2
    rw [← hl3] at e2
    have e1 := bval_split l1
    rw [← hl2] at e1
    have e0 := bval_split l0
    rw [← hl1] at e0
    rw [← hl0, e0, e1, e2, e3, e4, e5, e6, e7]
    rfl
  have hn : cnt l = cnt (l0.take 8) + cnt (l1.take 8) + cnt (l2.take 8) + cnt (l3.take 8) + cnt (l4.take 8) + cnt (l5.take 8) + cnt (l6.take 8) + cnt (l7.take 8) := by
    have e7 := cnt_split l7
    rw [h8] at e7
    have e6 := cnt_split l6
    rw [← hl7] at e6
    have e5 := cnt_split l5
    rw [← hl6] at e5
    have e4 := cnt_split l4
    rw [← hl5] at e4
    have e3 := cnt_split l3
    rw [← hl4] at e3
    have e2 := cnt_split l2
    rw [← hl3] at e2
    have e1 := cnt_split l1
    rw [← hl2] at e1
    have e0 := cnt_split l0
    rw [← hl1] at e0
    have ez : cnt [] = 0 := rfl
    rw [← hl0]
    omega
  have hs := swar_bytes _ _ _ _ _ _ _ _ (hlt l0) (hlt l1) (hlt l2) (hlt l3) (hlt l4) (hlt l5) (hlt l6) (hlt l7)
  rw [← hv] at hs
  rw [hn, ← hc l0, ← hc l1, ← hc l2, ← hc l3, ← hc l4, ← hc l5, ← hc l6, ← hc l7]
  exact hs

theorem cnt_words (l : List Bool) (k : Nat) : cnt (l.take (64 * (k + 1))) = cnt (l.take (64 * k)) + cnt ((l.drop (64 * k)).take 64) := by
  rw [← cnt_append, ← List.take_add]
  congr 2

theorem swar_word (l : List Bool) (k : Nat) : swar (wordAt l k) = cnt ((l.drop (64 * k)).take 64) ∧ st3 1085102592571150095 (st2 3689348814741910323 (st1 6148914691236517205 (wordAt l k))) ≤ 578721382704613384 :=
  swar_cnt _ (List.length_take_le _ _)

end Go.Proofs.Ytlciacpffoekjaa
