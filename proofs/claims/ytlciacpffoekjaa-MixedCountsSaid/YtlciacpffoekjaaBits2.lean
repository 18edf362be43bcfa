/- The contracts of package bits: many bits at once. -/
import Derived.Test.YtlciacpffoekjaaBits
namespace Go.Proofs.Ytlciacpffoekjaa
open Go.RowKit

/-- Numbers as bits: nought or not. -/
def bitsOf (zs : List Int) : List Bool := zs.map fun z => !(z == 0)

theorem bitsOf_snoc (zs : List Int) (k : Nat) (z : Int) (h : zs[k]? = some z) : bitsOf (zs.take (k + 1)) = bitsOf (zs.take k) ++ [!(z == 0)] := by
  have hk : k < zs.length := by
    rcases Nat.lt_or_ge k zs.length with h' | h'
    · exact h'
    · rw [List.getElem?_eq_none h'] at h; cases h
  rw [List.take_succ_eq_append_getElem hk]
  simp only [bitsOf, List.map_append, List.map_cons, List.map_nil]
  rw [List.getElem?_eq_getElem hk] at h
  cases h
  rfl

/-- A vector that has grown from v, l to v', l'; the world with it. -/
def VecGrown (w : World) (b : Nat) (v : Value) (l' : List Bool) (w' : World) : Prop :=
  ∃ v', VecAt w' b v' l' ∧ Keeps (fun k => k = b ∨ v.ownBlock = some k) w w' ∧ (v'.ownBlock = v.ownBlock ∨ ∃ k, v'.ownBlock = some k ∧ w.heap.size ≤ k)

theorem VecGrown.trans {w w1 w2 : World} {b : Nat} {v v1 : Value} {l' : List Bool} (hk : Keeps (fun k => k = b ∨ v.ownBlock = some k) w w1)
    (hv : v1.ownBlock = v.ownBlock ∨ ∃ k, v1.ownBlock = some k ∧ w.heap.size ≤ k) (h : VecGrown w1 b v1 l' w2) : VecGrown w b v l' w2 := by
  obtain ⟨v2, h1, h2, h3⟩ := h
  refine ⟨v2, h1, hk.trans h2 ?_, ?_⟩
  · rintro x hx (rfl | hx2)
    · exact .inl rfl
    · rcases hv with hv | ⟨k, hv, hk⟩
      · exact .inr (by rw [← hv]; exact hx2)
      · rw [hv] at hx2; cases hx2; omega
  · rcases h3 with h3 | ⟨k, h3, hk3⟩
    · rw [h3]; exact hv
    · exact .inr ⟨k, h3, Nat.le_trans hk.size hk3⟩

set_option maxRecDepth 100000 in
set_option maxHeartbeats 400000 in
theorem Add_any (b : Nat) (v : Value) (l : List Bool) (sv : Value) (zs : List Int) (w : World) (h : VecAt w b v l) (hs : Sl .i64 w sv zs)
    (hd : ∀ k, sv.ownBlock = some k → k ≠ b ∧ v.ownBlock ≠ some k) (hl : l.length + zs.length < 1000000000) :
    Calls Try.prog 35 #[.pointer (some ⟨b, 0, none⟩), sv] w fun e w' => e = .returned (.tuple #[]) ∧ VecGrown w b v (l ++ bitsOf zs) w' := by
  obtain ⟨a, cap, rfl, hnc, hcm, _, hc⟩ := hs
  go_enter Try.func35, Try.ntmps35
  go_wp2_with fail
  go_loopw [10] (fun i wr => ∃ k : Nat, k ≤ zs.length ∧ i = .int .i64 k ∧ VecGrown w b v (l ++ bitsOf (zs.take k)) wr) (fun i _ => zs.length - (intOf i).toNat)
  case atStart => exact ⟨0, Nat.zero_le _, rfl, v, by simpa [bitsOf] using h, Keeps.refl _ _, .inl rfl⟩
  case round =>
    obtain ⟨k, hk, rfl, hg⟩ := hrel
    by_cases hlt : k < zs.length
    · obtain ⟨z, hz⟩ : ∃ z, zs[k]? = some z := ⟨_, List.getElem?_eq_getElem hlt⟩
      obtain ⟨g, off, rfl, hcell⟩ := hc k z hz
      obtain ⟨v1, hv1, hk1, hf1⟩ := hg
      have hcell1 : wr.cell? ⟨g, off + k, none⟩ = some (.int .i64 z) := by
        rw [World.cell?_of_block (w := w) (hk1.block g (World.block_lt_of_cell? _ _ hcell) (by rintro (h | h); exact (hd g rfl).1 h; exact (hd g rfl).2 h))]
        exact hcell
      have hs2 := bitsOf_snoc zs k z hz
      have hll : (l ++ bitsOf (zs.take k)).length < 1000000000 := by simp [bitsOf]; omega
      have HS := Lib.hid hs2
      clear hs2 hc hz hcell h
      by_cases hz0 : z = 0
      · subst hz0
        have hA := add_zero b v1 _ wr hv1 hll
        go_wp2_with (go_at_call 84; refine hA.mono ?_; rintro e w2 ⟨rfl, hw2⟩)
        go_roundw
        case rel => exact ⟨k + 1, by omega, by go_num, by have e := HS.out; simp only [beq_self_eq_true, Bool.not_true] at e; rw [e, ← List.append_assoc]; exact VecGrown.trans hk1 hf1 hw2⟩
        case measure => simp [intOf]; omega
      · have hz1 : (!(z == 0)) = true := by simp [hz0]
        have hz2 : (z != 0) = true := by simp [hz0]
        rw [hz1] at HS
        clear hz1 hz0
        have hA := add_one b v1 _ wr hv1 hll
        go_wp2_with (go_at_call 84; refine hA.mono ?_; rintro e w2 ⟨rfl, hw2⟩)
        go_roundw
        case rel => exact ⟨k + 1, by omega, by go_num, by rw [HS.out, ← List.append_assoc]; exact VecGrown.trans hk1 hf1 hw2⟩
        case measure => simp [intOf]; omega
    · obtain rfl : k = zs.length := by omega
      rw [List.take_of_length_le (Nat.le_refl _)] at hg
      go_wp2
      go_end0
      exact ⟨rfl, hg⟩

theorem take_snoc (l : List Bool) (k : Nat) (h : k < l.length) : l.take (k + 1) = l.take k ++ [l.getD k false] := by
  rw [List.take_succ_eq_append_getElem h]
  simp [h]

theorem Sl.one (w : World) (k : IntKind) (z : Int) (t : TypeId) : Sl k (w.alloc (.cells #[.int k z] t)) (.slice (some ⟨w.heap.size, 0, none⟩) 1 1) [z] := by
  refine ⟨_, 1, rfl, by simp, by decide, (fun h => by cases h), fun j x hj => ?_⟩
  cases j with
  | zero => simp at hj; subst hj; exact ⟨_, _, rfl, by simp⟩
  | succ j => simp at hj

theorem Join_nil (b : Nat) (w : World) :
    Calls Try.prog 83 #[.pointer (some ⟨b, 0, none⟩), .pointer none] w fun e w' => e = .returned (.tuple #[]) ∧ w = w' := by
  go_enter Try.func83, Try.ntmps83
  go_wp2_with (go_at_call 81; refine (len_nil _).mono ?_; rintro e w' ⟨rfl, rfl⟩)
  refine wp_loop_once ?_
  go_wp2
  go_end0
  exact ⟨rfl, rfl⟩

set_option maxHeartbeats 400000 in
/-- All bits of another vector. -/
theorem Join_any (b : Nat) (v : Value) (l : List Bool) (b2 : Nat) (v2 : Value) (l2 : List Bool) (w : World) (h : VecAt w b v l) (h2 : VecAt w b2 v2 l2)
    (hd : b2 ≠ b) (hd2 : v.ownBlock ≠ some b2) (hd3 : v2.ownBlock ≠ some b) (hd4 : ∀ k, v2.ownBlock = some k → v.ownBlock ≠ some k) (hl : l.length + l2.length < 1000000000) :
    Calls Try.prog 83 #[.pointer (some ⟨b, 0, none⟩), .pointer (some ⟨b2, 0, none⟩)] w fun e w' => e = .returned (.tuple #[]) ∧ VecGrown w b v (l ++ l2) w' := by
  have hlen := len_any b2 v2 l2 w h2
  go_enter Try.func83, Try.ntmps83
  go_wp2_with (go_at_call 81; refine hlen.mono ?_; rintro e w' ⟨rfl, rfl⟩)
  clear hlen
  go_loopw [7] (fun i wr => ∃ k : Nat, k ≤ l2.length ∧ i = .int .i64 k ∧ VecGrown w b v (l ++ l2.take k) wr) (fun i _ => l2.length - (intOf i).toNat)
  case atStart => exact ⟨0, Nat.zero_le _, rfl, v, by simpa using h, Keeps.refl _ _, .inl rfl⟩
  case round =>
    obtain ⟨k, hk, rfl, hg⟩ := hrel
    by_cases hlt : k < l2.length
    · obtain ⟨v1, hv1, hk1, hf1⟩ := hg
      have h2' : VecAt wr b2 v2 l2 := h2.keeps hk1 (by rintro (h | h); exact hd h; exact hd2 h) (by
        rintro x hx (rfl | h)
        · exact hd3 hx
        · exact hd4 x hx h)
      have hA := at_in b2 v2 l2 k wr h2' hlt (by omega)
      have hB := fun t : TypeId => Add_any b v1 (l ++ l2.take k) (.slice (some ⟨wr.heap.size, 0, none⟩) 1 1) [((l2.getD k false).toNat : Int)] (wr.alloc (.cells #[.int .i64 ((l2.getD k false).toNat : Int)] t))
        (hv1.keeps ((Keeps.refl (fun _ => False) wr).alloc _) (fun h => h) (fun _ _ h => h)) (Sl.one wr .i64 _ t) (by
          intro x hx
          simp only [Value.ownBlock, Option.some.injEq] at hx
          subst hx
          exact ⟨fun e => by have := hv1.lt; omega, fun e => by have := (hv1.apart _ e).2; omega⟩) (by simp; omega)
      have hs := take_snoc l2 k hlt
      have HS := Lib.hid hs
      have hbo : bitsOf [((l2.getD k false).toNat : Int)] = [l2.getD k false] := by cases l2.getD k false <;> rfl
      rw [hbo] at hB
      clear hs hbo h h2 h2'
      generalize l2.getD k false = x at *
      go_wp2_with (first | (go_at_call 79; refine hA.mono ?_; rintro e w2 ⟨rfl, rfl⟩) | (go_at_call 35; refine (hB _).mono ?_; rintro e w2 ⟨rfl, hw2⟩))
      go_roundw
      case rel => exact ⟨k + 1, by omega, by go_num, by rw [HS.out, ← List.append_assoc]; exact VecGrown.trans (hk1.alloc _) hf1 hw2⟩
      case measure => simp [intOf]; omega
    · obtain rfl : k = l2.length := by omega
      rw [List.take_of_length_le (Nat.le_refl _)] at hg
      go_wp2
      go_end0
      exact ⟨rfl, hg⟩

end Go.Proofs.Ytlciacpffoekjaa
