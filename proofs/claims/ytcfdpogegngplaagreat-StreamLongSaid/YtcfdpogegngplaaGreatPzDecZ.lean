/- file.Decode of P, Q and noughts: never a map. -/
import Derived.Test.YtcfdpogegngplaaGreatPzDecF
import Derived.Test.YtcfdpogegngplaaGreatPzReadZ
namespace Go.Proofs.YtcfdpogegngplaaGreat
open Go.RowKit

/-- The first N of P, Q and noughts. -/
def zcs (N : Nat) : List Nat := ([80, 81] ++ List.replicate N 0).take N

theorem zcs_length (N : Nat) : (zcs N).length = N := by unfold zcs; simp; omega
theorem zcs_big (N : Nat) : zcs (N + 2) = 80 :: 81 :: List.replicate N 0 := by
  show (80 :: 81 :: List.replicate (N + 2) 0).take (N + 2) = _
  rw [show N + 2 = N + 1 + 1 by omega, List.take_succ_cons, List.take_succ_cons, List.take_replicate, Nat.min_eq_left (by omega)]
theorem zcs_lt (N : Nat) : ∀ x ∈ zcs N, x < 256 := by
  intro x hx
  unfold zcs at hx
  have := List.mem_of_mem_take hx
  simp at this
  omega

theorem decZ (pv : Value) (N : Nat) (lim : Int) (w : World) (hp : Sl .u8 w pv (nats (zcs N))) (hN : N ≤ 2097153) (hlim : -9223372036854775808 ≤ lim ∧ lim ≤ 9223372036854775807) :
    Calls Tryz.prog 34 #[pv, .int .i64 lim] w fun e w' => ∃ P x y z c, e = .returned (.tuple #[P, .agg #[.bool x, .bool y, .bool z], .int .i64 c]) ∧ Keeps (fun _ => False) w w' ∧ (c ≠ 0 ∧ (c = 6 ↔ 2097152 < N)) := by
  have hzl := zcs_length N
  have hown : ∀ M, N = M + 9 → (ownF (zcs N)).drop 3 = 0 :: 0 :: List.replicate M 0 := by
    intro M hM
    have h1 : zcs N = 80 :: 81 :: List.replicate (M + 7) 0 := by rw [hM]; exact zcs_big (M + 7)
    unfold ownF
    rw [hzl, h1, hM]
    have h2 : (80 :: 81 :: List.replicate (M + 7) 0).take (M + 9 - 4) = 80 :: 81 :: List.replicate (M + 3) 0 := by
      rw [show M + 9 - 4 = (M + 3) + 1 + 1 by omega, List.take_succ_cons, List.take_succ_cons, List.take_replicate, Nat.min_eq_left (by omega)]
    rw [h2, List.replicate_succ]
    simp [List.replicate_succ]
  have hne : ownN false 0 ++ four (crcV (ownN false 0)) ≠ zcs N := by
    intro h
    have h1 : ownN false 0 = [80, 81, 0, 0, 0] := by decide +kernel
    rw [h1] at h
    have hl := congrArg List.length h
    rw [hzl] at hl
    simp [four_length] at hl
    subst hl
    have h2 : zcs 9 = [80, 81, 0, 0, 0] ++ four 0 := by decide +kernel
    rw [h2] at h
    have h3 := List.append_cancel_left h
    exact crc_short (four_inj (crcV_lt (by decide)) (by decide) h3)
  have hfl : ∀ t p l, headV (zcs N) = optV t p l → t = false ∧ p = false ∧ l = false := by
    intro t p l h
    by_cases h9 : N < 3
    · have h2 : headC (zcs N) = 3 := by
        unfold headC
        rw [if_pos (.inl (by rw [hzl]; exact h9))]
      unfold headV at h
      rw [if_neg (by rw [h2]; decide)] at h
      simp [optV] at h
      exact h
    obtain ⟨M, rfl⟩ : ∃ M, N = M + 1 + 2 := ⟨N - 3, by omega⟩
    have h1 : zcs (M + 1 + 2) = 80 :: 81 :: 0 :: List.replicate M 0 := by rw [zcs_big, List.replicate_succ]
    rw [h1] at h
    have h2 : headC (80 :: 81 :: 0 :: List.replicate M 0) = 0 := by
      unfold headC
      rw [if_neg (by simp), if_neg (by simp)]
    unfold headV at h
    rw [if_pos h2] at h
    simp [optV] at h
    exact h
  have hD := fileDecode_any pv (zcs N) lim w (fun b W => ∃ R, MapAt W b [] (-1) 0 R) true (ownN false 0 ++ four (crcV (ownN false 0))) 0 hp (zcs_lt N) (by rw [hzl]; exact hN) hlim
    (by
      have h1 : ownN false 0 = [80, 81, 0, 0, 0] := by decide +kernel
      intro x hx
      rw [List.mem_append] at hx
      rcases hx with hx | hx
      · rw [h1] at hx; simp at hx; omega
      · exact four_lt _ x hx)
    (fun h => absurd h hne)
    (by
      intro h9 t p l hv W br pv' hk hbr hR hpb hs
      rw [hzl] at h9
      obtain ⟨rfl, rfl, rfl⟩ := hfl t p l hv
      obtain ⟨M, hM⟩ : ∃ M, N = M + 9 := ⟨N - 9, by omega⟩
      rw [hown M hM] at hs
      refine (readZero_any br false false pv' (List.replicate M 0) W hR hpb hs (fun x hx => by simp at hx; omega) (by rw [List.length_replicate]; omega)).mono ?_
      rintro e w' ⟨b, R, rfl, hA, hb, hk'⟩
      exact ⟨_, rfl, fun _ => ⟨b, rfl, ⟨R, hA⟩, hb⟩, hk'⟩)
    (by
      rintro _ t p l hv b W ⟨R, hA⟩ hb
      obtain ⟨rfl, rfl, rfl⟩ := hfl t p l hv
      refine (Encode_none (lone := 0) hA false).mono ?_
      rintro e w' ⟨v, rfl, ho, hk⟩
      exact ⟨v, 0, rfl, ho.sl, fun h => absurd h hne, hk⟩)
    (fun _ h => absurd h hne)
  refine hD.mono ?_
  rintro e w' ⟨hk, h⟩
  have hc : decC (zcs N) lim true (ownN false 0 ++ four (crcV (ownN false 0))) 0 ≠ 0 ∧ (decC (zcs N) lim true (ownN false 0 ++ four (crcV (ownN false 0))) 0 = 6 ↔ 2097152 < N) := by
    unfold decC
    rw [hzl]
    by_cases h1 : 2097152 < N
    · rw [if_pos h1]; exact ⟨by decide, by simp [h1]⟩
    rw [if_neg h1]
    by_cases h2 : N < 9
    · rw [if_pos h2]; exact ⟨by decide, by simp [h1]⟩
    rw [if_neg h2]
    by_cases h3 : headC (zcs N) ≠ 0
    · rw [if_pos h3]
      refine ⟨h3, ⟨fun h => ?_, fun h => absurd h h1⟩⟩
      unfold headC at h
      split at h
      · cases h
      · split at h <;> cases h
    rw [if_neg h3]
    by_cases h4 : (zcs N).drop (N - 4) ≠ four (crcV (ownF (zcs N)))
    · rw [if_pos h4]; exact ⟨by decide, by simp [h1]⟩
    rw [if_neg h4, if_pos (.inr hne)]
    exact ⟨by decide, by simp [h1]⟩
  rcases h with ⟨h, -⟩ | ⟨h, rfl⟩
  · exact absurd h hc.1
  · refine ⟨_, false, false, false, _, rfl, hk, ?_, ?_⟩
    · exact_mod_cast hc.1
    · rw [← hc.2]; exact_mod_cast Iff.rfl

end Go.Proofs.YtcfdpogegngplaaGreat
