/- Layer 2's statements: RankOnce. -/
import Derived.Test.YtlciacpffoekjaaIdx
namespace Go.Proofs.Ytlciacpffoekjaa
open Go.RowKit

/-- A question was asked: it was answered, or refused. -/
def AskPost (wh : World) (b : Nat) (l : List Bool) (done : Bool) (asked : Nat) (F : Nat → Prop) (e : Ending) (w' : World) : Prop :=
  ∃ (x : Int) (ok : Bool), e = .returned (.tuple #[.int .i64 x, .int .i64 (if ok then 0 else 1)]) ∧ IdxAfter wh b l (done || ok) (asked + 1) F w'

section
variable {wh wr : World} {b : Nat} {l : List Bool} {done : Bool} {asked : Nat} {F : Nat → Prop} (hF : ∀ x, F x → x < wh.heap.size) (h : IdxAfter wh b l done asked F wr)
include hF h

theorem Rank_ask (bit i : Int) (ha : asked ≤ 1000000000000) : Calls Try.prog 20 #[.pointer (some ⟨b, 0, none⟩), .int .i64 bit, .int .i64 i] wr (AskPost wh b l done asked F) := by
  by_cases hv : (bit = 0 ∨ bit = 1) ∧ 0 ≤ i ∧ i ≤ l.length
  · obtain ⟨n, rfl⟩ := Int.eq_ofNat_of_zero_le hv.2.1
    refine (Rank_in' hF h bit n ha hv.1 (by omega)).mono ?_
    rintro e w' ⟨rfl, hw⟩
    exact ⟨_, true, rfl, by simpa using hw⟩
  · refine (Rank_out' hF h bit i ha hv).mono ?_
    rintro e w' ⟨rfl, hw⟩
    exact ⟨_, false, rfl, by simpa using hw⟩

theorem Select_ask (bit k : Int) (ha : asked ≤ 1000000000000) : Calls Try.prog 21 #[.pointer (some ⟨b, 0, none⟩), .int .i64 bit, .int .i64 k] wr (AskPost wh b l done asked F) := by
  by_cases hv : (bit = 0 ∨ bit = 1) ∧ 0 ≤ k ∧ k < rk l bit l.length
  · refine (Select_in' hF h bit k ha hv.1 hv.2.1 hv.2.2).mono ?_
    rintro e w' ⟨n, rfl, _, hw⟩
    exact ⟨_, true, rfl, by simpa using hw⟩
  · refine (Select_out' hF h bit k ha hv).mono ?_
    rintro e w' ⟨rfl, hw⟩
    exact ⟨_, false, rfl, by simpa using hw⟩
end

set_option maxRecDepth 100000 in
set_option maxHeartbeats 4000000 in
theorem walkRankOnce (a0 : Option Addr) (len0 cap0 : Nat) (z0 : List Int) (a1 : Int) (a2 : Int) (a3 : Option Addr) (len3 cap3 : Nat) (z3 : List Int) (w : World) (w0 : RowIn .u8 w a0 len0 cap0 z0) (w1 : (Lit.int .u8 a1).wf = true) (w2 : (Lit.int .u16 a2).wf = true) (w3 : RowIn .i64 w a3 len3 cap3 z3) :
    Calls Try.prog 6 #[.slice a0 len0 cap0, .int .u8 a1, .int .u16 a2, .slice a3 len3 cap3] w fun e w' => e = .returned (.bool true) ∧ Below w.heap.size w w' := by
  have hnot : ∀ (x : Bool) (w : World), (Op.unary .not (.bool x)).run Try.prog w = .ok (.bool (!x)) w := fun _ _ => rfl
  obtain ⟨ps, hp, hps⟩ := w0.bytes
  obtain ⟨most, rfl, hm⟩ := u8_in w1
  obtain ⟨times, rfl, ht⟩ := u16_in w2
  obtain ⟨hq, hql, _, _⟩ := w3.sl
  clear w0 w1 w2 w3
  generalize hzq : z3.take len3 = qs at *
  clear hzq
  subst hql
  go_enter Try.func6, Try.ntmps6
  go_wp2_with (go_at_call 18; refine (awake02_any _).mono ?_; rintro e w1 ⟨rfl, hk1⟩)
  refine (made02_law _ ps most times w1 (hp.keeps hk1 (fun _ _ h => h)) hps hm ht).mono ?_
  rintro e w2 ⟨b, lv, F, zs, rfl, hzs, h01, hzl, hI, hF, hFw, hl, hlF, hk2⟩
  clear hzs hp hps h01
  have hlb := bitsOf_length zs
  have hFw2 : ∀ x, F x → w.heap.size ≤ x := fun x hx => Nat.le_trans hk1.size (hFw x hx)
  have hkW : ∀ W done asked, IdxAfter w2 b (bitsOf zs) done asked F W → Keeps (fun _ => False) w W := fun W done asked h =>
    (hk1.trans hk2 (fun _ _ h => h)).trans h.2 (fun x hx hf => by have := hFw2 x hf; omega)
  have HF := Lib.hid hkW
  clear hkW hk1 hk2 hFw hFw2 hlF
  obtain ⟨la, lc, rfl, hlc, hlc2⟩ := hl.form
  clear hl
  obtain ⟨qa, qc, hqv, hqn, hqm, _, hqc⟩ := hq
  simp only [Value.slice.injEq] at hqv
  obtain ⟨rfl, _, rfl⟩ := hqv
  have HQ := Lib.hid hqc
  clear hqc
  go_wp2_with (first | (go_at_call 29; refine (idxBuilt_any b _ _ _ _ _ hI.1).mono ?_; rintro e w' ⟨rfl, rfl⟩) | (go_at_call 24; refine (idxAsked_any b _ _ _ _ _ hI.1).mono ?_; rintro e w' ⟨rfl, rfl⟩))
  go_loopw [11, 12, 36] (fun bv av kv wr => ∃ (k : Nat) (done : Bool), k ≤ qs.length ∧ k ≤ 30 ∧ kv = .int .i64 k ∧ av = .int .i64 k ∧ bv = .int .i64 (if done then 1 else 0) ∧ IdxAfter w2 b (bitsOf zs) done k F wr) (fun _ _ kv _ => qs.length - (intOf kv).toNat)
  case atStart => exact ⟨0, false, by omega, by omega, rfl, rfl, rfl, hI⟩
  case round =>
    obtain ⟨k, done, hk, hk30, rfl, rfl, rfl, hIr⟩ := hrel
    clear hI
    by_cases hlt : k < qs.length
    · have hcell := HQ.out k qs[k] (List.getElem?_eq_getElem hlt)
      obtain ⟨g, off, rfl, hcell⟩ := hcell
      have hcw : wr.cell? ⟨g, off + k, none⟩ = some (.int .i64 qs[k]) := by
        rw [World.cell?_of_block (w := w) ((HF.out _ _ _ hIr).block g (World.block_lt_of_cell? _ _ hcell) (fun h => h))]
        exact hcell
      clear hcell
      generalize qs[k] = q at *
      by_cases h30 : k < 30
      · have hR := fun bit i => Rank_ask hF hIr bit i (by omega)
        have hS := fun bit i => Select_ask hF hIr bit i (by omega)
        clear hIr
        generalize hdx : (if done then 1 else 0 : Int) = x at *
        have HX := Lib.hid hdx
        clear hdx
        by_cases hk2 : k % 2 = 0
        · have tk : ((k : Int) % 2 == 0) = true := by simp; omega
          clear hk2
          go_wp2_with fail
          refine (hR _ _).mono ?_
          rintro e w3 ⟨v, ok, rfl, hI3⟩
          clear hR hS
          cases ok
          · have hB := idxBuilt_any b _ _ _ _ w3 hI3.1
            have hA := idxAsked_any b _ _ _ _ w3 hI3.1
            rw [Bool.or_false] at hB
            rw [HX.out] at hB
            have HI3 := Lib.hid hI3
            clear hI3
            go_wp2_with (first | (go_at_call 29; refine hB.mono ?_; rintro e w' ⟨rfl, rfl⟩) | (go_at_call 24; refine hA.mono ?_; rintro e w' ⟨rfl, rfl⟩))
            go_roundw
            case rel => exact ⟨k + 1, done, by omega, by omega, by go_num, by go_num, by rw [HX.out], by have := HI3.out; rwa [Bool.or_false] at this⟩
            case measure => simp [intOf]; omega
          · have hB := idxBuilt_any b _ _ _ _ w3 hI3.1
            have hA := idxAsked_any b _ _ _ _ w3 hI3.1
            rw [Bool.or_true] at hB
            have HI3 := Lib.hid hI3
            clear hI3
            go_wp2_with (first | (go_at_call 29; refine hB.mono ?_; rintro e w' ⟨rfl, rfl⟩) | (go_at_call 24; refine hA.mono ?_; rintro e w' ⟨rfl, rfl⟩))
            go_roundw
            case rel => exact ⟨k + 1, true, by omega, by omega, by go_num, by go_num, rfl, by have := HI3.out; rwa [Bool.or_true] at this⟩
            case measure => simp [intOf]; omega
        · have tk : ((k : Int) % 2 == 0) = false := by simp; omega
          clear hk2
          go_wp2_with fail
          refine (hS _ _).mono ?_
          rintro e w3 ⟨v, ok, rfl, hI3⟩
          clear hR hS
          cases ok
          · have hB := idxBuilt_any b _ _ _ _ w3 hI3.1
            have hA := idxAsked_any b _ _ _ _ w3 hI3.1
            rw [Bool.or_false] at hB
            rw [HX.out] at hB
            have HI3 := Lib.hid hI3
            clear hI3
            go_wp2_with (first | (go_at_call 29; refine hB.mono ?_; rintro e w' ⟨rfl, rfl⟩) | (go_at_call 24; refine hA.mono ?_; rintro e w' ⟨rfl, rfl⟩))
            go_roundw
            case rel => exact ⟨k + 1, done, by omega, by omega, by go_num, by go_num, by rw [HX.out], by have := HI3.out; rwa [Bool.or_false] at this⟩
            case measure => simp [intOf]; omega
          · have hB := idxBuilt_any b _ _ _ _ w3 hI3.1
            have hA := idxAsked_any b _ _ _ _ w3 hI3.1
            rw [Bool.or_true] at hB
            have HI3 := Lib.hid hI3
            clear hI3
            go_wp2_with (first | (go_at_call 29; refine hB.mono ?_; rintro e w' ⟨rfl, rfl⟩) | (go_at_call 24; refine hA.mono ?_; rintro e w' ⟨rfl, rfl⟩))
            go_roundw
            case rel => exact ⟨k + 1, true, by omega, by omega, by go_num, by go_num, rfl, by have := HI3.out; rwa [Bool.or_true] at this⟩
            case measure => simp [intOf]; omega
      · obtain rfl : k = 30 := by omega
        have hSz := idxSize_any b _ _ _ _ wr hIr.1
        rw [hlb] at hSz
        have HK := Lib.hid (HF.out _ _ _ hIr)
        clear hIr HQ
        generalize (if done then 1 else 0 : Int) = x at *
        by_cases hz5 : zs.length % 512 = 0
        · have tz : decide (0 < (zs.length : Int) % 512) = false := by simp; omega
          have td : decide (32 * ((zs.length : Int) / 512 + 1) ≤ (zs.length : Int) + 4096) = true := by simp; omega
          have ez : (((zs.length + 511) / 512 + 1 : Nat) : Int) = (zs.length : Int) / 512 + 1 := by omega
          rw [ez] at hSz
          clear ez
          go_wp2_with (go_at_call 30; refine hSz.mono ?_; rintro e w' ⟨rfl, rfl⟩)
          go_ret
          exact ⟨rfl, HK.out.below (fun _ _ h => h)⟩
        · have tz : decide (0 < (zs.length : Int) % 512) = true := by simp; omega
          have td : decide (32 * ((zs.length : Int) / 512 + 1 + 1) ≤ (zs.length : Int) + 4096) = true := by simp; omega
          have ez : (((zs.length + 511) / 512 + 1 : Nat) : Int) = (zs.length : Int) / 512 + 1 + 1 := by omega
          rw [ez] at hSz
          clear ez
          go_wp2_with (go_at_call 30; refine hSz.mono ?_; rintro e w' ⟨rfl, rfl⟩)
          go_ret
          exact ⟨rfl, HK.out.below (fun _ _ h => h)⟩
    · obtain rfl : k = qs.length := by omega
      have hSz := idxSize_any b _ _ _ _ wr hIr.1
      rw [hlb] at hSz
      have HK := Lib.hid (HF.out _ _ _ hIr)
      clear hIr HQ
      generalize (if done then 1 else 0 : Int) = x at *
      by_cases hz5 : zs.length % 512 = 0
      · have tz : decide (0 < (zs.length : Int) % 512) = false := by simp; omega
        have td : decide (32 * ((zs.length : Int) / 512 + 1) ≤ (zs.length : Int) + 4096) = true := by simp; omega
        have ez : (((zs.length + 511) / 512 + 1 : Nat) : Int) = (zs.length : Int) / 512 + 1 := by omega
        rw [ez] at hSz
        clear ez
        go_wp2_with (go_at_call 30; refine hSz.mono ?_; rintro e w' ⟨rfl, rfl⟩)
        go_ret
        exact ⟨rfl, HK.out.below (fun _ _ h => h)⟩
      · have tz : decide (0 < (zs.length : Int) % 512) = true := by simp; omega
        have td : decide (32 * ((zs.length : Int) / 512 + 1 + 1) ≤ (zs.length : Int) + 4096) = true := by simp; omega
        have ez : (((zs.length + 511) / 512 + 1 : Nat) : Int) = (zs.length : Int) / 512 + 1 + 1 := by omega
        rw [ez] at hSz
        clear ez
        go_wp2_with (go_at_call 30; refine hSz.mono ?_; rintro e w' ⟨rfl, rfl⟩)
        go_ret
        exact ⟨rfl, HK.out.below (fun _ _ h => h)⟩

end Go.Proofs.Ytlciacpffoekjaa
