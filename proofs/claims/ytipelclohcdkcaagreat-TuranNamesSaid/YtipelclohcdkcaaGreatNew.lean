/- dart.New: a map is made of turns. -/
import Derived.Test.YtipelclohcdkcaaGreatMap3
namespace Go.Proofs.YtipelclohcdkcaaGreat
open Go.RowKit

/-- What a map that is made leaves. -/
def MadeMap (w : World) (s : List Nat) (root lone : Int) (e : Ending) (w' : World) : Prop :=
  ∃ b, e = .returned (.tuple #[.pointer (some ⟨b, 0, none⟩), .int .i64 0]) ∧ MapAt w' b s root lone (fun x => w.heap.size ≤ x ∧ x < w'.heap.size ∧ x ≠ b) ∧ w.heap.size ≤ b ∧ Keeps (fun _ => False) w w'

/-- The turns along faces, as far as j. -/
def PhJ (s : List Nat) (j : Nat) (zs : List Int) : Prop := ∀ i, i < j → zs[i]? = some ((sg s (mt i) : Nat) : Int)
theorem PhJ.step {s : List Nat} {j : Nat} {zs : List Int} (hj : j < zs.length) (h : PhJ s j zs) : PhJ s (j + 1) (zs.set j ((sg s (mt j) : Nat) : Int)) := fun i hi => by
  rw [List.getElem?_set]
  by_cases e : j = i
  · subst e; rw [if_pos rfl, if_pos hj]
  · rw [if_neg e]; exact h i (by omega)
theorem PhJ.done {s : List Nat} {zs : List Int} (hl : zs.length = s.length) (h : PhJ s s.length zs) : zs = nats (phiL s) := by
  apply List.ext_getElem?
  intro i
  rcases Nat.lt_or_ge i s.length with hi | hi
  · rw [h i hi]; simp [nats, phiL, hi]
  · rw [List.getElem?_eq_none (by omega), List.getElem?_eq_none (by rw [nats_len, phiL_length]; omega)]

set_option maxRecDepth 100000 in
set_option maxHeartbeats 4000000 in
theorem new_some (lv : Value) (s : List Nat) (r l : Nat) (w : World) (hs : Sl .i64 w lv (nats s)) (hP : IsP s.length (sg s)) (he : s.length % 2 = 0) (hr : r < s.length) (hle : s.length ≤ 131072) (hln : l ≤ 65536) :
    Calls Tryz.prog 63 #[lv, .int .i64 r, .int .i64 l] w (MadeMap w s r l) := by
  have hO := permOf_any lv s w hs hP (by omega)
  have HS : Hid (∀ W, Keeps (fun _ => False) w W → Sl .i64 W lv (nats s)) := Lib.hid (fun W hk => hs.keeps hk (fun _ _ h => h))
  have HP := Lib.hid (And.intro hP he)
  obtain ⟨a, cap, rfl, hnc, hcm⟩ := hs.form
  rw [nats_len] at hnc HS hO ⊢
  obtain ⟨m, hm⟩ : ∃ m, s.length = 2 * m := ⟨s.length / 2, by omega⟩
  have q1 : ((s.length : Int).tmod 2 == 1) = false := by rw [beq_eq_false_iff_ne, Int.tmod_eq_emod_of_nonneg (by omega)]; omega
  have q2 : ((s.length : Int) % 2 == 1) = false := by rw [beq_eq_false_iff_ne]; omega
  have q3 : ((s.length : Int) == 0) = false := by rw [beq_eq_false_iff_ne]; omega
  have q4 : decide ((0 : Int) < (s.length : Int)) = true := decide_eq_true (by omega)
  have q4' : decide (0 < s.length) = true := decide_eq_true (by omega)
  have q5 : decide ((r : Int) < 0) = false := decide_eq_false (by omega)
  have q6 : decide (s.length ≤ r) = false := decide_eq_false (by omega)
  have q7 : decide ((l : Int) < 0) = false := decide_eq_false (by omega)
  have q8 : decide ((65536 : Int) < (s.length : Int) / 2) = false := decide_eq_false (by omega)
  have q9 : decide ((65536 : Int) < (l : Int)) = false := decide_eq_false (by omega)
  obtain ⟨i, hi, hz0, hz1, hz2⟩ := info_parts infoInt
  have hmk := fun w => run_make (P := Tryz.prog) w 22 3 i _ Tryz.underlying22 hi hz0 .i64 .i64 (s.length : Int) (s.length : Int) (by omega) (Int.le_refl _) (by rw [hz2]; omega) (by omega)
  simp only [hz1, Int.toNat_natCast, Nat.mul_one] at hmk
  have HM := Lib.hid hm
  clear hm hP hs he hi hz0 hz1 hz2
  go_enter Tryz.func63, Tryz.ntmps63
  go_wp2_with fail
  refine hO.mono ?_
  rintro e w1 ⟨bp, sv, rfl, hPA, hbp, hsv, hk1⟩
  have H1 := Lib.hid (And.intro hPA (And.intro hbp (And.intro hsv hk1)))
  have h0 := MadeS.made w1 s.length (PhJ s 0) (fun i hi => by omega) (by omega)
  clear hO hPA hbp hsv hk1
  go_wp2_with fail
  clear hmk
  generalize hwM : World.alloc _ _ = wM at *
  clear hwM
  obtain ⟨g, hg⟩ : ∃ g, g = w1.heap.size := ⟨_, rfl⟩
  rw [← hg] at h0
  rw [← hg]
  clear hg
  go_loopg [66] s.length (fun m i wr => ∃ j : Nat, j ≤ s.length ∧ m = s.length - j ∧ i = .int .i64 j ∧ MadeS w1 g s.length (PhJ s j) wr)
  case atStart => exact ⟨0, Nat.zero_le _, rfl, rfl, h0⟩
  case round =>
    clear h0
    obtain ⟨j, hj, hgk, rfl, hM⟩ := hrel
    have HG := Lib.hid hgk
    clear hgk
    by_cases hlt : j < s.length
    · obtain ⟨_, _, _, _, hkw⟩ := id hM
      have hml := mt_lt HP.out.2 hlt
      have hx := xor_i64 j (by omega)
      obtain ⟨gs, off, rfl, hcell⟩ := (HS.out wr (H1.out.2.2.2.trans hkw (fun _ _ h => h))).cellAt (nats_at hml)
      obtain ⟨z, _, hc, hf⟩ := hM.cell j hlt
      have HN := Lib.hid (hM.set (Q := PhJ s (j + 1)) j ((sg s (mt j) : Nat) : Int) (fun zs hzl h => h.step (by omega)))
      clear hM hkw
      generalize sg s (mt j) = x at *
      generalize mt j = y at *
      go_wp2
      go_roundg (s.length - (j + 1))
      case measure => rw [HG.out]; omega
      case rel => exact ⟨j + 1, by omega, rfl, by go_num, HN.out⟩
    · obtain rfl : j = s.length := by omega
      have hM2 := hM
      obtain ⟨zs, hz1, hz2, hz3, hk2⟩ := hM2
      have hz4 := PhJ.done hz1 hz2
      subst hz4
      have hO2 := permOf_any (.slice (some ⟨g, 0, none⟩) s.length s.length) (phiL s) wr hz3.sl (phi_isP HP.out.1 HP.out.2) (by rw [phiL_length]; omega)
      have H2 := Lib.hid hk2
      clear hM hz1 hz2 hz3 hk2
      go_wp2_with fail
      refine hO2.mono ?_
      rintro e w3 ⟨bq, tv, rfl, hPB, hbq, htv, hk3⟩
      obtain ⟨B, hB⟩ : ∃ B, B = mapCells bp false (.slice none 0 0) (.slice none 0 0) bq false (.slice none 0 0) (.slice none 0 0) r l := ⟨_, rfl⟩
      have hb := heap_alloc_new w3 (.cells B 168)
      have k4 := (Keeps.refl (fun _ => False) w3).alloc (.cells B 168)
      have hk13 := H2.out.trans hk3 (fun _ _ h => h)
      have hk14 := hk13.trans k4 (fun _ _ h => h)
      have hk04 := H1.out.2.2.2.trans hk14 (fun _ _ h => h)
      have s1 := H1.out.2.2.2.size
      have s2 := H2.out.size
      have s3 := hk3.size
      have hA := H1.out.1
      have hA4 := hA.keeps hk14 (fun h => h) (fun _ _ h => h)
      have hB4 := hPB.keeps k4 (fun h => h) (fun _ _ h => h)
      have hMA : MapAt (w3.alloc (.cells B 168)) w3.heap.size s r l (fun x => w.heap.size ≤ x ∧ x < (w3.alloc (.cells B 168)).heap.size ∧ x ≠ w3.heap.size) := by
        refine ⟨⟨bp, bq, sv, tv, false, false, _, _, _, _, by rw [hb, hB], hA4, hB4, ⟨rfl, rfl⟩, ⟨rfl, rfl⟩, ?_, ?_, fun k hk => ?_⟩, HP.out.1, HP.out.2, hle, .inr ⟨by omega, by omega⟩, ⟨by omega, by omega⟩, fun x hx => hx.2.1, fun hx => hx.2.2 rfl⟩
        · have := hA.lt; have := H1.out.2.1; simp; omega
        · have := hPB.lt; simp; omega
        · have hh : w.heap.size ≤ k ∧ k < w3.heap.size := by
            rcases hk with e | e | e | e | e | e
            · have := H1.out.2.2.1 k e; have := (hA.2.2 k e).2; omega
            · have := htv k e; have := (hPB.2.2 k e).2; omega
            · simp [Value.ownBlock] at e
            · simp [Value.ownBlock] at e
            · simp [Value.ownBlock] at e
            · simp [Value.ownBlock] at e
          simp; omega
      rw [hB] at hMA hk04
      have HF := Lib.hid (show MadeMap w s r l (.returned (.tuple #[.pointer (some ⟨w3.heap.size, 0, none⟩), .int .i64 0])) _ from ⟨_, rfl, hMA, by omega, hk04⟩)
      clear hO2 hPB hbq htv hk3 hB hb k4 hk13 hk14 hk04 hA hA4 hB4 hMA s1 s2 s3
      go_wp2
      go_ret2
      exact HF.out

theorem isP_zero (S : Nat → Nat) : IsP 0 S := ⟨fun d hd => by omega, fun d e hd => by omega⟩

set_option maxRecDepth 100000 in
set_option maxHeartbeats 4000000 in
theorem new_none (lv : Value) (l : Nat) (w : World) (hs : Sl .i64 w lv []) (hln : l ≤ 65536) :
    Calls Tryz.prog 63 #[lv, .int .i64 (-1), .int .i64 l] w (MadeMap w [] (-1) l) := by
  have hO := permOf_any lv [] w hs (isP_zero _) (by simp)
  obtain ⟨a, cap, rfl, hnc, hcm⟩ := hs.form
  simp only [List.length_nil] at hnc hO ⊢
  have q7 : decide ((l : Int) < 0) = false := decide_eq_false (by omega)
  have q9 : decide ((65536 : Int) < (l : Int)) = false := decide_eq_false (by omega)
  obtain ⟨i, hi, hz0, hz1, hz2⟩ := info_parts infoInt
  have hmk := fun w => run_make (P := Tryz.prog) w 22 3 i _ Tryz.underlying22 hi hz0 .i64 .i64 (0 : Int) (0 : Int) (by omega) (Int.le_refl _) (by rw [hz2]; omega) (by omega)
  simp only [hz1, Int.toNat_zero, Nat.mul_one] at hmk
  clear hs hi hz0 hz1 hz2
  go_enter Tryz.func63, Tryz.ntmps63
  go_wp2_with fail
  refine hO.mono ?_
  rintro e w1 ⟨bp, sv, rfl, hPA, hbp, hsv, hk1⟩
  have H1 := Lib.hid (And.intro hPA (And.intro hbp (And.intro hsv hk1)))
  have h0 := MadeS.made w1 0 (fun zs => zs = []) (by simp) (by omega)
  clear hO hPA hbp hsv hk1
  go_wp2_with fail
  clear hmk
  generalize hwM : World.alloc _ _ = wM at *
  clear hwM
  obtain ⟨g, hg⟩ : ∃ g, g = w1.heap.size := ⟨_, rfl⟩
  rw [← hg] at h0
  rw [← hg]
  clear hg
  go_loopg [66] 0 (fun m i wr => m = 0 ∧ i = .int .i64 0 ∧ MadeS w1 g 0 (fun zs => zs = []) wr)
  case atStart => exact ⟨rfl, rfl, h0⟩
  case round =>
    clear h0
    obtain ⟨hgk, rfl, hM⟩ := hrel
    obtain ⟨zs, hz1, hz2, hz3, hk2⟩ := hM
    subst hz2
    have hO2 := permOf_any (.slice (some ⟨g, 0, none⟩) 0 0) (phiL []) wr hz3.sl (isP_zero _) (by simp [phiL])
    have H2 := Lib.hid hk2
    clear hz1 hz3 hk2 hgk
    go_wp2_with fail
    refine hO2.mono ?_
    rintro e w3 ⟨bq, tv, rfl, hPB, hbq, htv, hk3⟩
    obtain ⟨B, hB⟩ : ∃ B, B = mapCells bp false (.slice none 0 0) (.slice none 0 0) bq false (.slice none 0 0) (.slice none 0 0) (-1) l := ⟨_, rfl⟩
    have hb := heap_alloc_new w3 (.cells B 168)
    have k4 := (Keeps.refl (fun _ => False) w3).alloc (.cells B 168)
    have hk13 := H2.out.trans hk3 (fun _ _ h => h)
    have hk14 := hk13.trans k4 (fun _ _ h => h)
    have hk04 := H1.out.2.2.2.trans hk14 (fun _ _ h => h)
    have s1 := H1.out.2.2.2.size
    have s2 := H2.out.size
    have s3 := hk3.size
    have hA := H1.out.1
    have hA4 := hA.keeps hk14 (fun h => h) (fun _ _ h => h)
    have hB4 := hPB.keeps k4 (fun h => h) (fun _ _ h => h)
    have hMA : MapAt (w3.alloc (.cells B 168)) w3.heap.size [] (-1) l (fun x => w.heap.size ≤ x ∧ x < (w3.alloc (.cells B 168)).heap.size ∧ x ≠ w3.heap.size) := by
      refine ⟨⟨bp, bq, sv, tv, false, false, _, _, _, _, by rw [hb, hB], hA4, hB4, ⟨rfl, rfl⟩, ⟨rfl, rfl⟩, ?_, ?_, fun k hk => ?_⟩, isP_zero _, rfl, by simp, .inl ⟨rfl, rfl⟩, ⟨by omega, by omega⟩, fun x hx => hx.2.1, fun hx => hx.2.2 rfl⟩
      · have := hA.lt; have := H1.out.2.1; simp; omega
      · have := hPB.lt; simp; omega
      · have hh : w.heap.size ≤ k ∧ k < w3.heap.size := by
          rcases hk with e | e | e | e | e | e
          · have := H1.out.2.2.1 k e; have := (hA.2.2 k e).2; omega
          · have := htv k e; have := (hPB.2.2 k e).2; omega
          · simp [Value.ownBlock] at e
          · simp [Value.ownBlock] at e
          · simp [Value.ownBlock] at e
          · simp [Value.ownBlock] at e
        simp; omega
    rw [hB] at hMA hk04
    have HF := Lib.hid (show MadeMap w [] (-1) l (.returned (.tuple #[.pointer (some ⟨w3.heap.size, 0, none⟩), .int .i64 0])) _ from ⟨_, rfl, hMA, by omega, hk04⟩)
    clear hO2 hPB hbq htv hk3 hB hb k4 hk13 hk14 hk04 hA hA4 hB4 hMA s1 s2 s3
    go_wp2
    go_ret2
    exact HF.out

end Go.Proofs.YtipelclohcdkcaaGreat
