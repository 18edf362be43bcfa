/- The index's contracts, told against a world that stays. -/
import Derived.Test.YtlciacpffoekjaaLaw02b
import Derived.OpenShut
namespace Go.Proofs.Ytlciacpffoekjaa
open Go.RowKit

theorem IdxAt.after {w : World} {b : Nat} {l : List Bool} {done : Bool} {asked : Nat} {F : Nat → Prop} (h : IdxAt w b l done asked F) : IdxAfter w b l done asked F w :=
  ⟨h.mono (fun _ hx => .inl hx) (grow_old h.old (Nat.le_refl _)), Keeps.refl _ _⟩

theorem IdxAfter.trans {wh w1 w2 : World} {b : Nat} {l : List Bool} {done done' : Bool} {asked asked' : Nat} {F : Nat → Prop} (hF : ∀ x, F x → x < wh.heap.size) (h : IdxAfter wh b l done asked F w1) (k : IdxAfter w1 b l done' asked' (grow F wh w1) w2) : IdxAfter wh b l done' asked' F w2 := by
  obtain ⟨h1, h2⟩ := h
  obtain ⟨k1, k2⟩ := k
  refine ⟨k1.mono (grow_trans h2.size k2.size) (grow_old hF (Nat.le_trans h2.size k2.size)), h2.trans k2 ?_⟩
  rintro x hx (h | h)
  · exact h
  · omega

section
variable {wh wr : World} {b : Nat} {l : List Bool} {done : Bool} {asked : Nat} {F : Nat → Prop} (hF : ∀ x, F x → x < wh.heap.size) (h : IdxAfter wh b l done asked F wr)
include hF h

theorem Rank_in' (bit : Int) (n : Nat) (ha : asked ≤ 1000000000000) (hb : bit = 0 ∨ bit = 1) (hn : n ≤ l.length) :
    Calls Try.prog 20 #[.pointer (some ⟨b, 0, none⟩), .int .i64 bit, .int .i64 n] wr fun e w' => e = .returned (.tuple #[.int .i64 (rk l bit n), .int .i64 0]) ∧ IdxAfter wh b l true (asked + 1) F w' :=
  (Rank_in b l done asked _ bit n wr h.1 ha hb hn).mono fun _ _ ⟨he, hw⟩ => ⟨he, h.trans hF hw⟩

theorem Rank_out' (bit i : Int) (ha : asked ≤ 1000000000000) (hb : ¬ ((bit = 0 ∨ bit = 1) ∧ 0 ≤ i ∧ i ≤ l.length)) :
    Calls Try.prog 20 #[.pointer (some ⟨b, 0, none⟩), .int .i64 bit, .int .i64 i] wr fun e w' => e = .returned (.tuple #[.int .i64 0, .int .i64 1]) ∧ IdxAfter wh b l done (asked + 1) F w' :=
  (Rank_out b l done asked _ bit i wr h.1 ha hb).mono fun _ _ ⟨he, hw⟩ => ⟨he, h.trans hF hw⟩

theorem Select_in' (bit k : Int) (ha : asked ≤ 1000000000000) (hb : bit = 0 ∨ bit = 1) (hk0 : 0 ≤ k) (hk : k < rk l bit l.length) :
    Calls Try.prog 21 #[.pointer (some ⟨b, 0, none⟩), .int .i64 bit, .int .i64 k] wr fun e w' => ∃ n : Nat, e = .returned (.tuple #[.int .i64 n, .int .i64 0]) ∧ IsSel l bit k n ∧ IdxAfter wh b l true (asked + 1) F w' :=
  (Select_in b l done asked _ bit k wr h.1 ha hb hk0 hk).mono fun _ _ ⟨n, he, hn, hw⟩ => ⟨n, he, hn, h.trans hF hw⟩

theorem Select_out' (bit k : Int) (ha : asked ≤ 1000000000000) (hb : ¬ ((bit = 0 ∨ bit = 1) ∧ 0 ≤ k ∧ k < rk l bit l.length)) :
    Calls Try.prog 21 #[.pointer (some ⟨b, 0, none⟩), .int .i64 bit, .int .i64 k] wr fun e w' => e = .returned (.tuple #[.int .i64 0, .int .i64 1]) ∧ IdxAfter wh b l done (asked + 1) F w' :=
  (Select_out b l done asked _ bit k wr h.1 ha hb).mono fun _ _ ⟨he, hw⟩ => ⟨he, h.trans hF hw⟩
end

theorem IdxAfter.keeps {wh w1 w2 : World} {b : Nat} {l : List Bool} {done : Bool} {asked : Nat} {F G : Nat → Prop} (h : IdxAfter wh b l done asked F w1) (k : Keeps G w1 w2) (hG : ∀ x, x < w1.heap.size → ¬ G x) : IdxAfter wh b l done asked F w2 := by
  obtain ⟨h1, h2⟩ := h
  refine ⟨(h1.keeps k (fun x hx => hG x (h1.old x hx))).mono ?_ ?_, h2.trans k (fun x hx hg => absurd hg (hG x (Nat.lt_of_lt_of_le hx h2.size)))⟩
  · rintro x (h | h)
    · exact .inl h
    · exact .inr ⟨h.1, Nat.lt_of_lt_of_le h.2 k.size⟩
  · rintro x (h | h)
    · exact Nat.lt_of_lt_of_le (h1.old x (.inl h)) k.size
    · exact h.2

theorem nats_01 (ps : List Nat) (most n : Nat) : ∀ z ∈ over (nats (few ps most)) n, z = 0 ∨ z = 1 := by
  induction n with
  | zero => intro z hz; simp [over] at hz
  | succ n ih =>
    intro z hz
    simp only [over, List.mem_append] at hz
    rcases hz with h | h
    · exact ih z h
    · simp only [nats, List.mem_map] at h
      obtain ⟨x, hx, rfl⟩ := h
      have := few_bit ps most x hx
      omega

/-- A nought or one as a bit and back. -/
theorem bit_back {zs : List Int} (h : ∀ z ∈ zs, z = 0 ∨ z = 1) {n : Nat} {z : Int} (hz : zs[n]? = some z) : (((bitsOf zs).getD n false).toNat : Int) = z := by
  have hm := List.mem_of_getElem? hz
  simp only [bitsOf, List.getD_eq_getElem?_getD, List.getElem?_map, hz, Option.map_some, Option.getD_some]
  rcases h z hm with rfl | rfl <;> rfl

theorem bitsOf_length (zs : List Int) : (bitsOf zs).length = zs.length := by simp [bitsOf]

theorem rk_sum (l : List Bool) (k : Nat) : rk l 0 k + rk l 1 k = k := by unfold rk ofZ; simp

/-- Bytes that came in. -/
theorem RowIn.bytes {w : World} {a : Option Addr} {len cap : Nat} {zs : List Int} (h : RowIn .u8 w a len cap zs) : ∃ ps : List Nat, Sl .u8 w (.slice a len cap) (nats ps) ∧ ∀ b ∈ ps, b < 256 := by
  obtain ⟨h1, _, h3, _⟩ := h.sl
  refine ⟨(zs.take len).map Int.toNat, ?_, ?_⟩
  · have : nats ((zs.take len).map Int.toNat) = zs.take len := by
      unfold nats
      rw [List.map_map]
      conv => rhs; rw [← List.map_id (zs.take len)]
      apply List.map_congr_left
      intro n hn
      have := bounds_u8 (h3 n hn)
      simp
      omega
    rw [this]
    exact h1
  · intro b hb
    obtain ⟨n, hn, rfl⟩ := List.mem_map.1 hb
    have := bounds_u8 (h3 n hn)
    omega

theorem u8_in {n : Int} (h : (Lit.int .u8 n).wf = true) : ∃ m : Nat, n = m ∧ m < 256 := by
  have := bounds_u8 h
  exact ⟨n.toNat, by omega, by omega⟩
theorem u16_in {n : Int} (h : (Lit.int .u16 n).wf = true) : ∃ m : Nat, n = m ∧ m < 65536 := by
  have := bounds_u16 h
  exact ⟨n.toNat, by omega, by omega⟩

/-- What 'made' hands to a statement. -/
theorem made02_law (pv : Value) (ps : List Nat) (most times : Nat) (w : World) (hp : Sl .u8 w pv (nats ps)) (hps : ∀ b ∈ ps, b < 256) (hm : most < 256) (ht : times < 65536) :
    Calls Try.prog 19 #[pv, .int .u8 most, .int .u16 times] w fun e w' => ∃ b lv F zs, e = .returned (.tuple #[.pointer (some ⟨b, 0, none⟩), lv]) ∧ zs = over (nats (few ps most)) (1 + times % 40) ∧ (∀ z ∈ zs, z = 0 ∨ z = 1) ∧ zs.length ≤ 10200 ∧
      IdxAfter w' b (bitsOf zs) false 0 F w' ∧ (∀ x, F x → x < w'.heap.size) ∧ (∀ x, F x → w.heap.size ≤ x) ∧ OwnI w.heap.size w' lv zs ∧ (∀ k, lv.ownBlock = some k → ¬ F k) ∧ Keeps (fun _ => False) w w' := by
  refine (made02_any pv ps most times w hp hps hm ht).mono ?_
  rintro e w' ⟨b, lv, F, rfl, h1, h2, h3, h4, h5⟩
  refine ⟨b, lv, F, _, rfl, rfl, nats_01 ps most _, ?_, h1.after, h1.old, h4, h2, h3, h5⟩
  rw [over_length]
  have h6 := few_le ps most
  have h7 : (nats (few ps most)).length ≤ 255 := by simp [nats]; omega
  exact Nat.le_trans (Nat.mul_le_mul (show 1 + times % 40 ≤ 40 by omega) h7) (by omega)

end Go.Proofs.Ytlciacpffoekjaa
