/- Joined texts. -/
import Derived.Test.YtcfdpogegngplaaGreatPzCoder
import Derived.Test.YtcfdpogegngplaaGreatPzVarP

/- Plain laws: bytes as bits and back; what was packed is unpacked, and nothing that was cut off is. No program is named here. -/
namespace Go.Proofs.YtcfdpogegngplaaGreat

/-- Bit i of bytes. -/
def byteBit (cs : List Nat) (i : Nat) : Bool := cs.getD (i / 8) 0 / 2 ^ (i % 8) % 2 == 1
/-- So many bits may be those of so many bytes. -/
def ofOk (cs : List Nat) (n : Nat) : Prop := n ≤ 8 * cs.length ∧ 8 * cs.length < n + 8
/-- The rest is noughts. -/
def ofPad (cs : List Nat) (n : Nat) : Prop := ∀ i, n ≤ i → i < 8 * cs.length → byteBit cs i = false
instance (cs : List Nat) (n : Nat) : Decidable (ofOk cs n) := by unfold ofOk; infer_instance
noncomputable instance (cs : List Nat) (n : Nat) : Decidable (ofPad cs n) := Classical.propDecidable _
/-! What comes of the first bytes. -/

theorem getN_some : ∀ (cs : List Nat) (i acc x u : Nat), getN cs i acc = some (x, u) → acc < 2 ^ (7 * i) → acc < 18446744073709551616 → x < 18446744073709551616 ∧ i ≤ u ∧ u ≤ i + cs.length := by
  intro cs
  induction cs with
  | nil => intro i acc x u h; cases h
  | cons b cs ih =>
    intro i acc x u h h1 h2
    have hc : getN (b :: cs) i acc = if 64 ≤ 7 * i ∨ 18446744073709551616 ≤ b % 128 * 2 ^ (7 * i) ∨ (b = 0 ∧ 0 < i) then none
      else if b < 128 then some (acc + b % 128 * 2 ^ (7 * i), i + 1) else getN cs (i + 1) (acc + b % 128 * 2 ^ (7 * i)) := rfl
    rw [hc] at h
    split at h
    · cases h
    · next hn =>
      have hA : acc + b % 128 * 2 ^ (7 * i) < 18446744073709551616 := by
        have h3 : acc + b % 128 * 2 ^ (7 * i) = acc ||| b % 128 * 2 ^ (7 * i) := by
          have := Nat.two_pow_add_eq_or_of_lt h1 (b % 128)
          rw [Nat.mul_comm] at this
          rw [Nat.add_comm, this, Nat.or_comm]
        rw [h3]
        exact Nat.or_lt_two_pow (n := 64) h2 (by omega)
      have hB : acc + b % 128 * 2 ^ (7 * i) < 2 ^ (7 * (i + 1)) := by
        have h3 : b % 128 * 2 ^ (7 * i) ≤ 127 * 2 ^ (7 * i) := Nat.mul_le_mul_right _ (by omega)
        rw [Nat.mul_add, Nat.pow_add]
        omega
      split at h
      · cases h
        exact ⟨hA, by omega, by simp⟩
      · have := ih (i + 1) _ x u h hB hA
        rw [List.length_cons]
        omega
theorem getN_in {cs : List Nat} {x u : Nat} (h : getN cs 0 0 = some (x, u)) : x < 18446744073709551616 ∧ u ≤ cs.length := by
  have := getN_some cs 0 0 x u h (by decide) (by decide)
  omega

/-! Unpacking. -/

end Go.Proofs.YtcfdpogegngplaaGreat

/- Plain laws: a file's bytes ahead of its sum, and how they are read. No program is named here. -/
namespace Go.Proofs.YtcfdpogegngplaaGreat

def numV (cs : List Nat) (most : Nat) : Option (Nat × List Nat) :=
  match getN cs 0 0 with
  | none => none
  | some (x, u) => if x ≤ most then some (x, cs.drop u) else none

end Go.Proofs.YtcfdpogegngplaaGreat
