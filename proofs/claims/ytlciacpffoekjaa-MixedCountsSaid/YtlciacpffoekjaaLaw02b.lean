/- Layer 2's statements: the document's example. -/
import Derived.Test.YtlciacpffoekjaaLaw02a
namespace Go.Proofs.Ytlciacpffoekjaa
open Go.RowKit

theorem awake_bits : over (nats (few [6] 4)) (1 + 0 % 40) = [0, 1, 1, 0] := by decide
theorem awake_rk : rk (bitsOf [0, 1, 1, 0]) 1 2 = 1 := by decide
theorem awake_len : rk (bitsOf [0, 1, 1, 0]) 0 (bitsOf [0, 1, 1, 0]).length = 2 := by decide
theorem awake_sel (n : Nat) (h : IsSel (bitsOf [0, 1, 1, 0]) 0 1 n) : n = 3 :=
  IsSel.unique (.inl rfl) h (by unfold IsSel; decide)

set_option maxRecDepth 100000 in
set_option maxHeartbeats 2000000 in
theorem awake02_any (w : World) :
    Calls Try.prog 18 #[] w fun e w' => e = .returned (.bool true) ∧ Keeps (fun _ => False) w w' := by
  have hM := made02_any (.slice (some ⟨w.heap.size, 0, none⟩) 1 1) [6] 4 0 (w.alloc (.cells #[.int .u8 6] 5)) (Sl.one w .u8 6 _) (by simp) (by omega) (by omega)
  rw [awake_bits] at hM
  go_enter Try.func18, Try.ntmps18
  go_wp2_with fail
  refine hM.mono ?_
  rintro e w1 ⟨b, lv, F, rfl, hI, hl, hd, hF, hK⟩
  have hR := Rank_in b _ false 0 F 1 2 w1 hI (by omega) (.inr rfl) (by decide)
  rw [awake_rk] at hR
  have k1 : Keeps (fun _ => False) w w1 := ((Keeps.refl _ w).alloc _).trans hK (fun _ _ h => h)
  clear hM hI hl hd hK
  go_wp2_with fail
  refine hR.mono ?_
  rintro e w2 ⟨rfl, hI2, hK2⟩
  have k2 : Keeps (fun _ => False) w w2 := k1.trans hK2 (fun x hx h => by have := hF x h; simp at this; omega)
  have hS := Select_in b _ true 1 (grow F w1 w2) 0 1 w2 hI2 (by omega) (.inl rfl) (by omega) (by rw [awake_len]; omega)
  have hgr : ∀ x, x < w.heap.size → ¬ grow F w1 w2 x := fun x hx h => by
    rcases h with h | h
    · have := hF x h; simp at this; omega
    · have := k1.size; omega
  clear hR hI2 hK2 k1 hF
  go_wp2_with fail
  refine hS.mono ?_
  rintro e w3 ⟨n, rfl, hn, hI3, hK3⟩
  have k3 : Keeps (fun _ => False) w w3 := k2.trans hK3 hgr
  obtain rfl := awake_sel n hn
  clear hS hn hI3 hK3 k2 hgr
  have HK := Lib.hid k3
  clear k3
  go_wp2
  go_ret
  exact ⟨rfl, HK.out⟩

end Go.Proofs.Ytlciacpffoekjaa
