/- The contracts of math/bits.OnesCount64 and of the vector's Ones. -/
import Derived.Test.YtlciacpffoekjaaBits2
import Derived.Test.YtlciacpffoekjaaPop
namespace Go.Proofs.Ytlciacpffoekjaa
open Go.RowKit

theorem and_lit (a m : Nat) (M : Int) (hM : M = (m : Int)) (ha : a < 18446744073709551616) (hm : m < 18446744073709551616) : bits BinOp.and IntKind.u64 (a : Int) M = ((a &&& m : Nat) : Int) := by
  rw [hM]; exact bits_and_u64_nat a m ha hm

theorem wrap_nat (n : Nat) (h : n < 18446744073709551616) : IntKind.u64.wrap (n : Int) = (n : Int) := by
  rw [IntKind.wrap_u64]; omega

theorem div_nat (x k : Nat) (K : Int) (hK : K = (k : Int)) : (x : Int) / K = ((x / k : Nat) : Int) := by rw [hK]; exact (Int.natCast_ediv x k).symm

theorem s1 (x : Nat) (hx : x < 18446744073709551616) :
    IntKind.u64.wrap (bits BinOp.and IntKind.u64 ((x : Int) / 2) 6148914691236517205 + bits BinOp.and IntKind.u64 (x : Int) 6148914691236517205) = ((st1 6148914691236517205 x : Nat) : Int) ∧ st1 6148914691236517205 x ≤ 12297829382473034410 := by
  have h1 : (x / 2) &&& 6148914691236517205 ≤ 6148914691236517205 := Nat.and_le_right
  have h2 : x &&& 6148914691236517205 ≤ 6148914691236517205 := Nat.and_le_right
  have hle : st1 6148914691236517205 x ≤ 12297829382473034410 := by unfold st1; omega
  refine ⟨?_, hle⟩
  rw [div_nat x 2 2 rfl, and_lit (x / 2) 6148914691236517205 6148914691236517205 rfl (by omega) (by omega), and_lit x 6148914691236517205 6148914691236517205 rfl hx (by omega), ← Int.natCast_add, wrap_nat _ (by unfold st1 at hle; omega)]
  rfl

theorem s2 (x : Nat) (hx : x < 18446744073709551616) :
    IntKind.u64.wrap (bits BinOp.and IntKind.u64 ((x : Int) / 4) 3689348814741910323 + bits BinOp.and IntKind.u64 (x : Int) 3689348814741910323) = ((st2 3689348814741910323 x : Nat) : Int) ∧ st2 3689348814741910323 x ≤ 7378697629483820646 := by
  have h1 : (x / 4) &&& 3689348814741910323 ≤ 3689348814741910323 := Nat.and_le_right
  have h2 : x &&& 3689348814741910323 ≤ 3689348814741910323 := Nat.and_le_right
  have hle : st2 3689348814741910323 x ≤ 7378697629483820646 := by unfold st2; omega
  refine ⟨?_, hle⟩
  rw [div_nat x 4 4 rfl, and_lit (x / 4) 3689348814741910323 3689348814741910323 rfl (by omega) (by omega), and_lit x 3689348814741910323 3689348814741910323 rfl hx (by omega), ← Int.natCast_add, wrap_nat _ (by unfold st2 at hle; omega)]
  rfl

theorem s3 (x : Nat) (hx : x ≤ 7378697629483820646) :
    bits BinOp.and IntKind.u64 (IntKind.u64.wrap ((x : Int) / 16 + (x : Int))) 1085102592571150095 = ((st3 1085102592571150095 x : Nat) : Int) := by
  rw [div_nat x 16 16 rfl, ← Int.natCast_add, wrap_nat _ (by omega), and_lit (x / 16 + x) 1085102592571150095 1085102592571150095 rfl (by omega) (by omega)]
  rfl

/-- What the walk of OnesCount64 comes to. -/
def onesE (x : Int) : Int :=
  let a := IntKind.u64.wrap (bits BinOp.and IntKind.u64 (x / 2) 6148914691236517205 + bits BinOp.and IntKind.u64 x 6148914691236517205)
  let b := IntKind.u64.wrap (bits BinOp.and IntKind.u64 (a / 4) 3689348814741910323 + bits BinOp.and IntKind.u64 a 3689348814741910323)
  let c := bits BinOp.and IntKind.u64 (IntKind.u64.wrap (b / 16 + b)) 1085102592571150095
  let d := IntKind.u64.wrap (c + c / 256)
  let e := IntKind.u64.wrap (d + d / 65536)
  let f := IntKind.u64.wrap (e + e / 4294967296)
  bits BinOp.and IntKind.i64 (wrap64 f) 127

theorem and127 (n : Nat) (h : n < 9223372036854775808) : bits BinOp.and IntKind.i64 (wrap64 (n : Int)) 127 = ((n % 128 : Nat) : Int) := by
  rw [IntWalk.wrap64_in _ ⟨by omega, by omega⟩]
  have h1 := bits_nat .i64 63 (by decide) (fun m h0 h1 => IntWalk.i64_in m (by omega)) n 127 (by omega) (by omega)
  rw [show (127 : Int) = ((127 : Nat) : Int) from rfl, h1.1, Nat.and_two_pow_sub_one_eq_mod n 7]

theorem onesE_eq (x : Nat) (hx : x < 18446744073709551616) (hs : st3 1085102592571150095 (st2 3689348814741910323 (st1 6148914691236517205 x)) ≤ 578721382704613384) : onesE x = (swar x : Nat) := by
  obtain ⟨e1, l1⟩ := s1 x hx
  obtain ⟨e2, l2⟩ := s2 (st1 6148914691236517205 x) (by omega)
  have e3 := s3 _ l2
  unfold onesE
  simp only [e1, e2, e3]
  unfold swar
  simp only []
  generalize st3 1085102592571150095 (st2 3689348814741910323 (st1 6148914691236517205 x)) = a at *
  clear e1 e2 e3 l1 l2
  rw [div_nat a 256 256 rfl, ← Int.natCast_add, wrap_nat _ (by omega)]
  have hb : a + a / 256 ≤ 600000000000000000 := by omega
  generalize a + a / 256 = b at *
  rw [div_nat b 65536 65536 rfl, ← Int.natCast_add, wrap_nat _ (by omega)]
  have hc : b + b / 65536 ≤ 700000000000000000 := by omega
  generalize b + b / 65536 = c at *
  rw [div_nat c 4294967296 4294967296 rfl, ← Int.natCast_add, wrap_nat _ (by omega), and127 _ (by omega)]

set_option maxHeartbeats 400000 in
theorem ones64_any (x : Nat) (w : World) (hx : x < 18446744073709551616) (hs : st3 1085102592571150095 (st2 3689348814741910323 (st1 6148914691236517205 x)) ≤ 578721382704613384) :
    Calls Try.prog 113 #[.int .u64 x] w fun e w' => e = .returned (.int .i64 (swar x)) ∧ w = w' := by
  have hE := Lib.hid (onesE_eq x hx hs)
  clear hs
  go_enter Try.func113, Try.ntmps113
  go_wp2
  go_ret
  refine ⟨?_, rfl⟩
  rw [← hE.out]
  rfl

set_option maxHeartbeats 400000 in
theorem Ones_any (b : Nat) (v : Value) (l : List Bool) (w : World) (h : VecAt w b v l) (hl : l.length ≤ 1000000000) :
    Calls Try.prog 82 #[.pointer (some ⟨b, 0, none⟩)] w fun e w' => e = .returned (.int .i64 (cnt l)) ∧ w = w' := by
  have h0 : w.cell? ⟨b, 0, none⟩ = some v := World.cell_of_heap h.1 0
  have hml : (words l).length ≤ 1000000000 := by rw [words_length]; omega
  have hw := h.2
  have hwl := words_length l
  have hform : ∃ a cap, v = .slice a (words l).length cap ∧ (words l).length ≤ cap ∧ cap ≤ 9223372036854775807 ∧ ∀ j, j < (words l).length → ∃ g, a = some ⟨g, 0, none⟩ ∧ w.cell? ⟨g, j, none⟩ = some (.int .u64 (wordAt l j : Nat)) := by
    by_cases hp : 0 < (words l).length
    · obtain ⟨g, cap, rfl, h1, h2, hc, _, _⟩ := owns_form hw hp
      refine ⟨_, cap, rfl, h1, by unfold maxLen at h2; omega, fun j hj => ⟨g, rfl, ?_⟩⟩
      exact (hc j _ (by rw [List.getElem?_map, words_get (by omega)]; rfl)).1
    · have hz : (words l).length = 0 := by omega
      rw [hz] at hw ⊢
      rcases hw.2 with ⟨rfl, _⟩ | ⟨g, cap, cur, rfl, hb, hg, hnc, hcm, _⟩
      · exact ⟨none, 0, rfl, by omega, by decide, fun j hj => by omega⟩
      · exact ⟨_, cap, rfl, by omega, by unfold maxLen at hcm; omega, fun j hj => by omega⟩
  obtain ⟨a, cap, rfl, hnc, hcm, hc⟩ := hform
  have hcl : cnt (l.take (64 * (words l).length)) = cnt l := by rw [List.take_of_length_le (by omega)]
  clear hw h
  have HL := Lib.hid hcl
  clear hcl hwl
  generalize (words l).length = m at *
  go_enter Try.func82, Try.ntmps82
  go_wp2_with fail
  go_loop [3, 13] (fun n i => ∃ k : Nat, k ≤ m ∧ i = .int .i64 k ∧ n = .int .i64 (cnt (l.take (64 * k)))) (fun _ i => m - (intOf i).toNat)
  case atStart => exact ⟨0, Nat.zero_le _, rfl, rfl⟩
  case round =>
    obtain ⟨k, hk, rfl, rfl⟩ := hrel
    by_cases hlt : k < m
    · obtain ⟨g, rfl, hcell⟩ := hc k hlt
      have hsw := swar_word l k
      have hO := ones64_any (wordAt l k) w (wordAt_lt l k) hsw.2
      have hle := cnt_le (l.take (64 * (k + 1)))
      have hll : (l.take (64 * (k + 1))).length ≤ 1000000000 := by simp; omega
      have hcw := cnt_words l k
      rw [← hsw.1] at hcw
      have hb1 : cnt (l.take (64 * k)) ≤ 1000000000 := by omega
      have hb2 : swar (wordAt l k) ≤ 1000000000 := by omega
      have HC := Lib.hid hcw
      clear hsw hcw hc hle hll
      generalize swar (wordAt l k) = y at *
      generalize wordAt l k = z at *
      generalize cnt (l.take (64 * k)) = p at *
      go_wp2_with (go_at_call 113; refine hO.mono ?_; rintro e w' ⟨rfl, rfl⟩)
      go_round
      case rel => exact ⟨k + 1, by omega, by go_num, by rw [HC.out]; go_num⟩
      case measure => simp [intOf]; omega
    · obtain rfl : k = m := by omega
      go_wp2
      go_ret
      exact ⟨ret_int (by rw [HL.out]), rfl⟩

end Go.Proofs.Ytlciacpffoekjaa
