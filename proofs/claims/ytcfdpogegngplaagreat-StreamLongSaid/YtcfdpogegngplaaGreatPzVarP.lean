/- Joined texts. -/
import Derived.Test.YtcfdpogegngplaaGreatPzBase

/- Plain: the checksum of bytes. No program is named here. -/
namespace Go.Proofs.YtcfdpogegngplaaGreat

/-- One bit further. -/
def crcBit (r : Nat) : Nat := if r % 2 = 0 then r / 2 else (r / 2) ^^^ 3988292384
def crcIt : Nat → Nat → Nat
  | 0, r => r
  | n + 1, r => crcBit (crcIt n r)
/-- One byte further. -/
def crcStep (r b : Nat) : Nat := crcIt 8 (r ^^^ b)
/-- The register behind bytes, turned. -/
def crcR (bs : List Nat) : Nat := bs.foldl crcStep 4294967295
def crcV (bs : List Nat) : Nat := crcR bs ^^^ 4294967295

theorem crcBit_lt {r : Nat} (h : r < 4294967296) : crcBit r < 4294967296 := by
  unfold crcBit
  split
  · omega
  · exact Nat.xor_lt_two_pow (n := 32) (by omega) (by decide)
theorem crcIt_lt {r : Nat} (h : r < 4294967296) : ∀ n, crcIt n r < 4294967296 := by
  intro n
  induction n with
  | zero => exact h
  | succ n ih => exact crcBit_lt ih
theorem crcStep_lt {r b : Nat} (h : r < 4294967296) (hb : b < 256) : crcStep r b < 4294967296 :=
  crcIt_lt (Nat.xor_lt_two_pow (n := 32) h (by omega)) 8
theorem crcFold_lt : ∀ (bs : List Nat) (r : Nat), (∀ b ∈ bs, b < 256) → r < 4294967296 → bs.foldl crcStep r < 4294967296 := by
  intro bs
  induction bs with
  | nil => intro r _ h; exact h
  | cons b bs ih => intro r hb h; exact ih _ (fun x hx => hb x (by simp [hx])) (crcStep_lt h (hb b (by simp)))
theorem crcV_lt {bs : List Nat} (h : ∀ b ∈ bs, b < 256) : crcV bs < 4294967296 :=
  Nat.xor_lt_two_pow (n := 32) (crcFold_lt bs _ h (by decide)) (by decide)

/-- A number's four bytes. -/
def four (x : Nat) : List Nat := [x % 256, x / 256 % 256, x / 65536 % 256, x / 16777216 % 256]
theorem four_lt (x : Nat) : ∀ b ∈ four x, b < 256 := by
  intro b hb
  simp only [four, List.mem_cons, List.not_mem_nil, or_false] at hb
  omega
theorem four_length (x : Nat) : (four x).length = 4 := rfl

theorem crc_short : crcV [80, 81, 0, 0, 0] ≠ 0 := by decide +kernel

end Go.Proofs.YtcfdpogegngplaaGreat

/- Plain laws: numbers as few bytes; bits as bytes. No program is named here. -/
namespace Go.Proofs.YtcfdpogegngplaaGreat

/-- A number's bytes, seven bits a byte, the lowest first. -/
def vaB (x : Nat) : List Nat := if x < 128 then [x] else (x % 128 + 128) :: vaB (x / 128)
termination_by x
decreasing_by omega

theorem vaB_small {x : Nat} (h : x < 128) : vaB x = [x] := by unfold vaB; rw [if_pos h]
theorem vaB_more {x : Nat} (h : ¬ x < 128) : vaB x = (x % 128 + 128) :: vaB (x / 128) := by rw [vaB]; rw [if_neg h]

theorem vaB_lt (x : Nat) : ∀ b ∈ vaB x, b < 256 := by
  induction x using Nat.strongRecOn with
  | ind x ih =>
    intro b hb
    by_cases h : x < 128
    · rw [vaB_small h] at hb; simp at hb; omega
    · rw [vaB_more h] at hb
      rcases List.mem_cons.1 hb with rfl | hb
      · omega
      · exact ih (x / 128) (by omega) b hb

theorem vaB_len : ∀ (k x : Nat), x < 128 ^ (k + 1) → (vaB x).length ≤ k + 1 := by
  intro k
  induction k with
  | zero => intro x h; rw [vaB_small (by omega)]; simp
  | succ k ih =>
    intro x h
    by_cases h1 : x < 128
    · rw [vaB_small h1]; simp
    · rw [vaB_more h1, List.length_cons]
      have := ih (x / 128) (by rw [Nat.pow_succ] at h; omega)
      omega
theorem vaB_len10 {x : Nat} (h : x < 18446744073709551616) : (vaB x).length ≤ 10 := vaB_len 9 x (Nat.lt_of_lt_of_le h (by decide))

/-- And back: the number, and how many bytes it took. -/
def getN : List Nat → Nat → Nat → Option (Nat × Nat)
  | [], _, _ => none
  | b :: p, i, acc =>
    if 64 ≤ 7 * i ∨ 18446744073709551616 ≤ b % 128 * 2 ^ (7 * i) ∨ (b = 0 ∧ 0 < i) then none
    else if b < 128 then some (acc + b % 128 * 2 ^ (7 * i), i + 1) else getN p (i + 1) (acc + b % 128 * 2 ^ (7 * i))

/-! Bits as bytes, the first one the lowest. -/

end Go.Proofs.YtcfdpogegngplaaGreat
