/- Layer 2's statements: what their helper 'made' makes. -/
import Derived.Test.YtlciacpffoekjaaSelOut
import Derived.Test.YtlciacpffoekjaaFew
namespace Go.Proofs.Ytlciacpffoekjaa
open Go.RowKit

theorem OwnI.apart_vec {B : Nat} {w : World} {sv : Value} {zs : List Int} {b : Nat} {v : Value} {l : List Bool} (h : OwnI B w sv zs) (hv : VecAt w b v l) : ∀ k, sv.ownBlock = some k → k ≠ b ∧ v.ownBlock ≠ some k := by
  intro k hk
  obtain ⟨_, h2⟩ := h
  rcases h2 with ⟨rfl, _⟩ | ⟨g, cap, cur, rfl, _, hg, _⟩
  · simp [Value.ownBlock] at hk
  · simp only [Value.ownBlock, Option.some.injEq] at hk
    subst hk
    refine ⟨?_, ?_⟩
    · rintro rfl
      rw [hv.1] at hg
      simp at hg
    · intro hvb
      obtain ⟨_, _, h3⟩ := hv
      rcases h3 with ⟨rfl, _⟩ | ⟨g', cap', cur', rfl, _, hg', _⟩
      · simp [Value.ownBlock] at hvb
      · simp only [Value.ownBlock, Option.some.injEq] at hvb
        subst hvb
        rw [hg] at hg'
        simp at hg'

/-- So many times over. -/
def over (l : List Int) : Nat → List Int
  | 0 => []
  | n + 1 => over l n ++ l

theorem over_length (l : List Int) (n : Nat) : (over l n).length = n * l.length := by
  induction n with
  | zero => simp [over]
  | succ n ih => simp [over, ih, Nat.succ_mul]

theorem bitsOf_append (a b : List Int) : bitsOf (a ++ b) = bitsOf a ++ bitsOf b := by simp [bitsOf]

/-- What 'made' has made when it has gone round so often. -/
def MadeAt (w : World) (bv : Nat) (sv : Value) (some_ : List Int) (n : Nat) (lv : Value) (wr : World) : Prop :=
  ∃ v, VecAt wr bv v (bitsOf (over some_ n)) ∧ OwnI w.heap.size wr lv (over some_ n) ∧ OwnI w.heap.size wr sv some_ ∧ (∀ k, lv.ownBlock = some k → sv.ownBlock ≠ some k) ∧
    (∀ k, v.ownBlock = some k → w.heap.size ≤ k) ∧ w.heap.size ≤ bv ∧ Keeps (fun _ => False) w wr

set_option maxRecDepth 100000 in
set_option maxHeartbeats 2000000 in
theorem made02_any (pv : Value) (ps : List Nat) (most times : Nat) (w : World) (hp : Sl .u8 w pv (nats ps)) (hps : ∀ b ∈ ps, b < 256) (hm : most < 256) (ht : times < 65536) :
    Calls Try.prog 19 #[pv, .int .u8 most, .int .u16 times] w fun e w' => ∃ b lv F, e = .returned (.tuple #[.pointer (some ⟨b, 0, none⟩), lv]) ∧
      IdxAt w' b (bitsOf (over (nats (few ps most)) (1 + times % 40))) false 0 F ∧ OwnI w.heap.size w' lv (over (nats (few ps most)) (1 + times % 40)) ∧
      (∀ k, lv.ownBlock = some k → ¬ F k) ∧ (∀ k, F k → w.heap.size ≤ k) ∧ Keeps (fun _ => False) w w' := by
  have hF := Few_any pv ps most w hp hps (by omega)
  have hfl := few_le ps most
  have hnl : (nats (few ps most)).length ≤ 255 := by simp [nats]; omega
  clear hp hps hfl
  generalize nats (few ps most) = sm at *
  go_enter Try.func19, Try.ntmps19
  go_wp2_with (go_at_call 33; refine hF.mono ?_; rintro e w1 ⟨sv, rfl, hs, hk1⟩)
  refine (new_any _).mono ?_
  rintro e w2 ⟨rfl, rfl⟩
  have hM0 : MadeAt w w1.heap.size sv sm 0 (.slice none 0 0) (w1.alloc (.cells #[.slice none 0 0, .int .i64 0] 111)) :=
    ⟨_, vec_new w1, OwnI.nil _ _, hs.alloc _, fun k hk => by simp [Value.ownBlock] at hk, fun k hk => by simp [Value.ownBlock] at hk, hk1.size, hk1.alloc _⟩
  clear hF hs hk1
  generalize w1.heap.size = bv at *
  generalize w1.alloc _ = w2 at *
  go_wp2_with fail
  go_loopw [10, 21] (fun lv i wr => ∃ k : Nat, k ≤ 1 + times % 40 ∧ i = .int .i64 k ∧ MadeAt w bv sv sm k lv wr) (fun _ i _ => 1 + times % 40 - (intOf i).toNat)
  case atStart => exact ⟨0, by omega, rfl, hM0⟩
  case round =>
    obtain ⟨k, hk, rfl, hM⟩ := hrel
    clear hM0
    obtain ⟨v, hv, hl, hs, hd, hvb, hbv, hkw⟩ := hM
    have hsz := hkw.size
    have hol := over_length sm k
    have hb1 : (over sm k).length ≤ 40 * 255 := by
      rw [hol]
      exact Nat.mul_le_mul (by omega) hnl
    have hbl : (bitsOf (over sm k)).length = (over sm k).length := by simp [bitsOf]
    by_cases hlt : k < 1 + times % 40
    · have hA := Add_any bv v (bitsOf (over sm k)) sv sm wr hv hs.sl (hs.apart_vec hv) (by omega)
      have hap := hl.apart_vec hv
      have hap2 := hs.apart_vec hv
      have hov : over sm (k + 1) = over sm k ++ sm := rfl
      have hbo := bitsOf_append (over sm k) sm
      have HO := Lib.hid (And.intro hov hbo)
      clear hov hbo hbl hol
      go_wp2_with fail
      refine hA.mono ?_
      rintro e w3 ⟨rfl, v3, hv3, hk3, hf3⟩
      have hl3 := hl.keeps hk3 (fun b hb h => h.elim (hap b hb).1 (hap b hb).2)
      have hs3 := hs.keeps hk3 (fun b hb h => h.elim (hap2 b hb).1 (hap2 b hb).2)
      have hB3 := hk3.size
      have hap3 := hl3.apart_vec hv3
      clear hA hap hap2
      go_wp2_with (at_builtin; refine appendInts rfl _ _ rfl w.heap.size u10 sv (over sm k) sm rfl rfl hl3 hs3.sl (by omega) (by omega) ?_; intro lv4 w4 hl4 hk4 hf4)
      have hM : MadeAt w bv sv sm (k + 1) lv4 w4 := by
        have hlo := fun b hb => hl3.lt b hb
        refine ⟨v3, ?_, ?_, hs3.keeps hk4 (fun b hb h => hd b h hb), ?_, ?_, hbv, (hkw.trans hk3 ?_).trans hk4 ?_⟩
        · rw [HO.out.1, HO.out.2]
          exact hv3.keeps hk4 (fun h => (hap3 bv h).1 rfl) (fun b hb h => (hap3 b h).2 hb)
        · rw [HO.out.1]; exact hl4
        · intro b hb hsb
          rcases hf4 with h | ⟨b', h, hb'⟩
          · rw [h] at hb; exact hd b hb hsb
          · rw [h] at hb; cases hb
            have := (hs3.lt b hsb).2
            omega
        · intro b hb
          rcases hf3 with h | ⟨b', h, hb'⟩
          · rw [h] at hb; exact hvb b hb
          · rw [h] at hb; cases hb; omega
        · rintro x hx (rfl | h)
          · omega
          · have := hvb x h; omega
        · intro x hx h
          have := (hlo x h).1
          omega
      have HM := Lib.hid hM
      clear hM hl4 hk4 hf4 hl3 hs3 hap3 hv3 hk3 hf3 hl hs hd hv hvb hkw
      go_wp2
      go_roundw
      case rel => exact ⟨k + 1, by omega, by go_num, HM.out⟩
      case measure => simp [intOf]; omega
    · obtain rfl : k = 1 + times % 40 := by omega
      have hR := rankNew_any bv v (bitsOf (over sm (1 + times % 40))) wr hv (by omega)
      clear hbl hol
      go_wp2_with fail
      refine hR.mono ?_
      rintro e w3 ⟨b, rfl, hI, hK⟩
      have hv3 := hv.keeps hK (fun h => h) (fun _ _ h => h)
      have hl3 := hl.keeps hK (fun _ _ h => h)
      have hap3 := hl3.apart_vec hv3
      have hs3 := hK.size
      have hA := Add_any bv v (bitsOf (over sm (1 + times % 40))) (.slice (some ⟨w3.heap.size, 0, none⟩) 1 1) [1] (w3.alloc (.cells #[.int .i64 1] 3))
        (hv3.keeps ((Keeps.refl (fun _ => False) w3).alloc _) (fun h => h) (fun _ _ h => h)) (Sl.one w3 .i64 1 _) (by
          intro x hx
          simp only [Value.ownBlock, Option.some.injEq] at hx
          subst hx
          exact ⟨fun e => by have := hv3.lt; omega, fun e => by have := (hv3.apart _ e).2; omega⟩) (by simp [bitsOf]; omega)
      clear hR
      go_wp2_with fail
      refine hA.mono ?_
      rintro e w4 ⟨rfl, v4, hv4, hk4, hf4⟩
      have hbw := hv.lt
      have hvw := fun x hx => (hv.apart x hx).2
      have hk5 : Keeps (fun x => x = bv ∨ v.ownBlock = some x) w3 w4 := ((Keeps.refl _ w3).alloc _).trans hk4 (fun _ _ h => h)
      have hfin : IdxAt w4 b (bitsOf (over sm (1 + times % 40))) false 0 (fun k => wr.heap.size ≤ k ∧ k < w3.heap.size) ∧ OwnI w.heap.size w4 u10 (over sm (1 + times % 40)) ∧
          (∀ k, u10.ownBlock = some k → ¬ (wr.heap.size ≤ k ∧ k < w3.heap.size)) ∧ (∀ k, (wr.heap.size ≤ k ∧ k < w3.heap.size) → w.heap.size ≤ k) ∧ Keeps (fun _ => False) w w4 := by
        refine ⟨hI.keeps hk5 ?_, hl3.keeps hk5 (fun x hx h => h.elim (hap3 x hx).1 (hap3 x hx).2), ?_, fun x hx => by omega, (hkw.trans hK (fun _ _ h => h)).trans hk5 ?_⟩
        · rintro x hx (rfl | h)
          · omega
          · have := hvw x h; omega
        · intro x hx h
          have := (hl.lt x hx).2
          omega
        · rintro x hx (rfl | h)
          · omega
          · have := hvb x h; omega
      have HF := Lib.hid hfin
      clear hfin hk5 hf4 hk4 hv4 hA hv3 hl3 hap3 hI hK
      go_wp2
      go_ret2
      exact ⟨b, u10, _, rfl, HF.out⟩

end Go.Proofs.Ytlciacpffoekjaa
