/- law13.awake; look.Of of what is no word. -/
import Derived.Test.YtipelclohcdkcaaGreatPsAsk
namespace Go.Proofs.YtipelclohcdkcaaGreat
open Go.RowKit

theorem sl_ex (w : World) : OwnI w.heap.size (w.alloc (.cells #[.int .i64 0, .int .i64 0, .int .i64 2, .int .i64 1, .int .i64 1, .int .i64 3] 3)) (.slice (some ⟨w.heap.size, 0, none⟩) 6 6) (nats exW) :=
  World.ownsRow_lit (base := w.heap.size) (e := 3) (size := 1) w #[.int .i64 0, .int .i64 0, .int .i64 2, .int .i64 1, .int .i64 1, .int .i64 3] 6 (Nat.le_refl _) (by unfold maxLen; omega) rfl

set_option maxRecDepth 100000 in
set_option maxHeartbeats 4000000 in
theorem awake13_any (w : World) : Calls Tryz.prog 36 #[] w fun e w' => e = .returned (.bool true) ∧ Keeps (fun _ => False) w w' := by
  have k0 := (Keeps.refl (fun _ => False) w).alloc (.cells #[.int .i64 0, .int .i64 0, .int .i64 2, .int .i64 1, .int .i64 1, .int .i64 3] 3)
  have hw := exW_wd
  have hO := of13_any (.slice (some ⟨w.heap.size, 0, none⟩) 6 6) exW _ (sl_ex w).sl (fun k hk => by simp only [Value.ownBlock, Option.some.injEq] at hk; subst hk; simp) hw.k4 (by decide) hw.bal exW_canon
  have HK := Lib.hid k0
  clear k0
  go_enter Tryz.func36, Tryz.ntmps36
  go_wp2_with fail
  refine hO.mono ?_
  rintro e w1 ⟨bl, b, bo, bi, bp, F, rfl, hS, hFw, hbl, hk1⟩
  clear hO
  have hsz0 := HK.out.size
  have hFold := hS.mix.old
  have hblw := hS.lt
  have hbF := hS.sep
  have hp0 : orb (tn exW) 0 = [0, 5] := by rw [hw.orb_first (v := 0) (.inr (.inl ⟨by decide, rfl, rfl⟩)) (by decide)]; decide
  have hp2 : orb (tn exW) 2 = [2, 3] := by rw [hw.orb_first (v := 2) (.inr (.inr ⟨by decide, 1, 1, rfl, ⟨by decide, by decide⟩, rfl⟩)) (by decide)]; decide
  have hper : per (tn exW) 0 = 2 := by rw [← orb_length, hp0]; rfl
  have hD := lookDegree_in hS (by omega) (by omega) hw (by decide) 0 0 (by decide) (.inr (.inl ⟨by decide, rfl, rfl⟩)) (by decide)
  rw [hper] at hD
  have HKF := Lib.hid (And.intro (HK.out.trans hk1 (fun _ _ h => h)) (And.intro hFw hbl))
  clear hk1 hFw hbl
  go_wp2_with fail
  refine hD.mono ?_
  rintro e w2 ⟨rfl, hQ1⟩
  clear hD
  have hN := lookNth_in hQ1.1 (by omega) (by simp [exW]) hw (by decide) 2 0 2 (by decide) (by omega) (.inr (.inr ⟨by decide, 1, 1, rfl, ⟨by decide, by decide⟩, rfl⟩)) (by decide)
  rw [hp2] at hN
  go_wp2_with fail
  refine hN.mono ?_
  rintro e w3 ⟨⟨z, c, rfl, hz⟩, hQ2⟩
  have hzc : z = 0 ∧ c = 0 := by
    rcases hz with ⟨x, hx, h1, h2⟩ | ⟨h1, _⟩
    · obtain rfl : 2 = x := by simpa using hx
      rw [exW_mp2] at h1
      exact ⟨by rw [h1]; decide, h2⟩
    · simp at h1
  obtain ⟨rfl, rfl⟩ := hzc
  clear hN hz
  have hQ12 := LookQ.trans hFold hblw hbF hQ1 hQ2
  have hA := lookAdjacent_in hQ2.1 (by omega) (by simp [exW]) hw (by decide) 0 2 0 (by decide) (by decide) (.inr (.inl ⟨by decide, rfl, rfl⟩)) (by decide)
  rw [hp0] at hA
  go_wp2_with fail
  refine hA.mono ?_
  rintro e w4 ⟨⟨t, rfl, ht⟩, hQ3⟩
  have htt : t = true := ht.2 ⟨5, by simp, by rw [exW_mp5]; decide⟩
  subst htt
  have hfin : Keeps (fun _ => False) w w4 := (HKF.out.1.trans hQ12.2 (fun x hx hh => by
      have h1 := HKF.out.2.1 x
      have h2 := HKF.out.2.2
      rcases hh with hh | hh
      · have := h1 hh; omega
      · omega)).trans hQ3.2 (fun x hx hh => by
      have h1 := HKF.out.2.1 x
      have h2 := HKF.out.2.2
      have h3 := HKF.out.1.size
      have h4 := hQ12.2.size
      have h5 := hQ1.2.size
      rcases hh with hh | hh
      · rcases hh with hh | hh
        · rcases hh with hh | hh
          · have := h1 hh; omega
          · omega
        · omega
      · omega)
  have HF := Lib.hid hfin
  clear hA ht hQ1 hQ2 hQ12 hQ3 hfin hS
  go_wp2
  go_ret
  exact ⟨rfl, HF.out⟩

end Go.Proofs.YtipelclohcdkcaaGreat
