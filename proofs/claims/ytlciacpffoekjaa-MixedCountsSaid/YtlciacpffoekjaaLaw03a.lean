/- Layer 3's statements: made, awake. -/
import Derived.Test.YtlciacpffoekjaaMates
namespace Go.Proofs.Ytlciacpffoekjaa
open Go.RowKit

set_option maxRecDepth 100000 in
set_option maxHeartbeats 1000000 in
theorem made03_any (sv : Value) (zs : List Int) (w : World) (hs : Sl .i64 w sv zs) (hsv : ∀ k, sv.ownBlock = some k → k < w.heap.size) (hl : zs.length ≤ 1000000) (hB : Bal (bitsOf zs)) :
    Calls Try.prog 40 #[sv] w fun e w' => ∃ b F, e = .returned (.tuple #[.pointer (some ⟨b, 0, none⟩), sv, .bool true]) ∧ ParAt w' b (bitsOf zs) false 0 F ∧ (∀ x, F x → w.heap.size ≤ x) ∧ Keeps (fun _ => False) w w' := by
  have hbl := bitsOf_length zs
  have k0 := (Keeps.refl (fun _ => False) w).alloc (.cells #[.slice none 0 0, .int .i64 0] 111)
  have hA := Add_any w.heap.size (.slice none 0 0) [] sv zs _ (vec_new w) (hs.keeps k0 (fun _ _ h => h)) (fun k hk => ⟨by have := hsv k hk; omega, by simp [Value.ownBlock]⟩) (by simp; omega)
  have HB := Lib.hid hB
  clear hs hB
  go_enter Try.func40, Try.ntmps40
  go_wp2_with fail
  refine (new_any _).mono ?_
  rintro e w1 ⟨rfl, rfl⟩
  go_wp2_with fail
  refine hA.mono ?_
  rintro e w2 ⟨rfl, v2, hv2, hk2, hf2⟩
  simp only [List.nil_append] at hv2
  have k2 := k0.trans hk2 (fun x hx h => by
    rcases h with rfl | h
    · omega
    · simp [Value.ownBlock] at h)
  have hN := parNew_good w.heap.size v2 (bitsOf zs) w2 hv2 (by omega) HB.out
  have hvb : ∀ k, v2.ownBlock = some k → w.heap.size ≤ k := by
    intro k hk
    rcases hf2 with h | ⟨k', h, hk'⟩
    · rw [h] at hk; simp [Value.ownBlock] at hk
    · rw [h] at hk; cases hk; simp at hk'; omega
  clear hA hk2 k0 hf2
  go_wp2_with fail
  refine hN.mono ?_
  rintro e w3 ⟨b, rfl, hP, hk3⟩
  have hv3 := hv2.keeps hk3 (fun h => h) (fun _ _ h => h)
  have hA3 := Add_any w.heap.size v2 (bitsOf zs) (.slice (some ⟨w3.heap.size, 0, none⟩) 1 1) [1] (w3.alloc (.cells #[.int .i64 1] 3))
        (hv3.keeps ((Keeps.refl (fun _ => False) w3).alloc _) (fun h => h) (fun _ _ h => h)) (Sl.one w3 .i64 1 _) (by
          intro x hx
          simp only [Value.ownBlock, Option.some.injEq] at hx
          subst hx
          exact ⟨fun e => by have := hv3.lt; omega, fun e => by have := (hv3.apart _ e).2; omega⟩) (by simp; omega)
  clear hN
  go_wp2_with fail
  refine hA3.mono ?_
  rintro e w4 ⟨rfl, v4, hv4, hk4, hf4⟩
  have hlt2 := hv2.lt
  have hap2 := fun x hx => (hv2.apart x hx).2
  have hk5 : Keeps (fun x => x = w.heap.size ∨ v2.ownBlock = some x) w3 w4 := ((Keeps.refl _ w3).alloc _).trans hk4 (fun _ _ h => h)
  have hfin : ParAt w4 b (bitsOf zs) false 0 (fun k => w2.heap.size ≤ k ∧ k < w3.heap.size) ∧ (∀ x, (w2.heap.size ≤ x ∧ x < w3.heap.size) → w.heap.size ≤ x) ∧ Keeps (fun _ => False) w w4 := by
    refine ⟨hP.keeps hk5 ?_, fun x hx => Nat.le_trans k2.size hx.1, (k2.trans hk3 (fun _ _ h => h)).trans hk5 ?_⟩
    · rintro x hx (rfl | h)
      · omega
      · have := hap2 x h; omega
    · rintro x hx (rfl | h)
      · omega
      · have := hvb x h; omega
  have HF := Lib.hid hfin
  clear hfin hk5 hf4 hk4 hv4 hA3 hv3 hP hk3 k2 hap2
  go_wp2
  refine bodyPost_ret (v := .tuple #[.pointer (some ⟨b, 0, none⟩), sv, .bool true]) (by simp [results, Try.results40, go_sem]) rfl ⟨b, _, rfl, HF.out⟩

def l6 : List Bool := bitsOf [1, 1, 0, 1, 0, 0]
theorem bal6 : Bal (bitsOf [1, 1, 0, 1, 0, 0]) := ⟨by decide, fun p hp => by
  have h : ∀ p, p < 7 → 0 ≤ ex (bitsOf [1, 1, 0, 1, 0, 0]) p := by decide
  exact h p (by have : (bitsOf [1, 1, 0, 1, 0, 0]).length = 6 := rfl; omega)⟩
theorem pair05 : IsPair (bitsOf [1, 1, 0, 1, 0, 0]) 0 5 := ⟨by decide, by decide, by decide, fun p h1 h2 => by
  have h : ∀ p, p < 6 → 0 < p → ex (bitsOf [1, 1, 0, 1, 0, 0]) 0 < ex (bitsOf [1, 1, 0, 1, 0, 0]) p := by decide
  exact h p (by omega) h1⟩
theorem round3 : RoundOf (bitsOf [1, 1, 0, 1, 0, 0]) 3 0 := .inl ⟨by decide, .inr ⟨by decide, 0, rfl, by decide, by decide, by decide, fun p h1 h2 => by
  have h : ∀ p, p < 4 → 0 < p → ex (bitsOf [1, 1, 0, 1, 0, 0]) 3 - 1 < ex (bitsOf [1, 1, 0, 1, 0, 0]) p := by decide
  exact h p (by omega) h1⟩⟩
theorem round0 : RoundOf (bitsOf [1, 1, 0, 1, 0, 0]) 0 (-1) := .inl ⟨by decide, .inl ⟨by decide, rfl⟩⟩
theorem ex62 : ex (bitsOf [1, 1, 0, 1, 0, 0]) 2 = 2 := by decide

theorem Sl.six (w : World) (a b c d e f : Int) (t : TypeId) : Sl .i64 (w.alloc (.cells #[.int .i64 a, .int .i64 b, .int .i64 c, .int .i64 d, .int .i64 e, .int .i64 f] t)) (.slice (some ⟨w.heap.size, 0, none⟩) 6 6) [a, b, c, d, e, f] := by
  refine ⟨_, 6, rfl, by simp, by decide, (fun h => by cases h), fun j x hj => ⟨_, _, rfl, ?_⟩⟩
  rw [World.cell_of_heap (heap_alloc_new w _)]
  have hj6 : j < 6 := by
    rcases Nat.lt_or_ge j 6 with h | h
    · exact h
    · rw [List.getElem?_eq_none (by simpa using h)] at hj; cases hj
  match j, hj6 with
  | 0, _ => cases hj; rfl
  | 1, _ => cases hj; rfl
  | 2, _ => cases hj; rfl
  | 3, _ => cases hj; rfl
  | 4, _ => cases hj; rfl
  | 5, _ => cases hj; rfl

set_option maxRecDepth 100000 in
set_option maxHeartbeats 2000000 in
theorem awake03_any (w : World) :
    Calls Try.prog 32 #[] w fun e w' => e = .returned (.bool true) ∧ Keeps (fun _ => False) w w' := by
  have hnot : ∀ (x : Bool) (w : World), (Op.unary .not (.bool x)).run Try.prog w = .ok (.bool (!x)) w := fun _ _ => rfl
  have hM := made03_any (.slice (some ⟨w.heap.size, 0, none⟩) 6 6) [1, 1, 0, 1, 0, 0] (w.alloc (.cells #[.int .i64 1, .int .i64 1, .int .i64 0, .int .i64 1, .int .i64 0, .int .i64 0] 3)) (Sl.six w 1 1 0 1 0 0 _) (fun k hk => by simp only [Value.ownBlock, Option.some.injEq] at hk; subst hk; simp) (by simp) bal6
  have hlen : (bitsOf [1, 1, 0, 1, 0, 0]).length = 6 := rfl
  go_enter Try.func32, Try.ntmps32
  go_wp2_with fail
  refine hM.mono ?_
  rintro e w1 ⟨b, F, rfl, hP0, hFw, hk⟩
  have hF := hP0.old
  have hP := hP0.after
  clear hM hP0
  have k1 : Keeps (fun _ => False) w w1 := ((Keeps.refl _ w).alloc _).trans hk (fun _ _ h => h)
  have hfin : ∀ W done q, ParAfter w1 b (bitsOf [1, 1, 0, 1, 0, 0]) done q F W → Keeps (fun _ => False) w W := fun W done q h => k1.trans h.2 (fun x hx h => by have := hFw x h; simp at this; omega)
  have HF := Lib.hid hfin
  clear hfin hk k1 hFw
  have q1 := Mate_in hF hP 0 5 (by omega) (by rw [hlen]; omega) pair05.mate_l
  clear hP
  go_wp2_with fail
  refine q1.mono ?_
  rintro e w2 ⟨rfl, hP⟩
  have q2 := Round_in hF hP 3 0 (by omega) (by rw [hlen]; omega) round3
  clear q1 hP
  go_wp2_with fail
  refine q2.mono ?_
  rintro e w3 ⟨rfl, hP⟩
  have q3 := Round_in hF hP 0 (-1) (by omega) (by rw [hlen]; omega) round0
  clear q2 hP
  go_wp2_with fail
  refine q3.mono ?_
  rintro e w4 ⟨rfl, hP⟩
  have q4 := Excess_in hF hP 2 (by omega) (by rw [hlen]; omega)
  rw [ex62] at q4
  clear q3 hP
  go_wp2_with fail
  refine q4.mono ?_
  rintro e w5 ⟨rfl, hP⟩
  have HK := Lib.hid (HF.out _ _ _ hP)
  clear q4 hP HF hF
  go_wp2
  go_ret
  exact ⟨rfl, HK.out⟩

end Go.Proofs.Ytlciacpffoekjaa
