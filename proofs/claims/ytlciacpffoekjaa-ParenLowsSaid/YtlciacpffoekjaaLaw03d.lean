/- Layer 3's statements: ParenLows. -/
import Derived.Test.YtlciacpffoekjaaLaw03b
namespace Go.Proofs.Ytlciacpffoekjaa
open Go.RowKit

set_option maxRecDepth 100000 in
set_option maxHeartbeats 4000000 in
theorem walkParenLows (a0 : Int) (a1 : Option Addr) (len1 cap1 : Nat) (z1 : List Int) (i : Int) (j : Int) (w : World) (w0 : (Lit.int .u16 a0).wf = true) (w1 : RowIn .u8 w a1 len1 cap1 z1) (_ : (Lit.int .i64 i).wf = true) (_ : (Lit.int .i64 j).wf = true) :
    Calls Try.prog 11 #[.int .u16 a0, .slice a1 len1 cap1, .int .i64 i, .int .i64 j] w fun e w' => e = .returned (.bool true) ∧ Below w.heap.size w w' := by
  have hnot : ∀ (x : Bool) (w : World), (Op.unary .not (.bool x)).run Try.prog w = .ok (.bool (!x)) w := fun _ _ => rfl
  obtain ⟨ps, hp, hps⟩ := w1.bytes
  obtain ⟨n, rfl, hn⟩ := u16_in w0
  clear w0 w1
  have hA := fun w1 (hk : Keeps (fun _ => False) w w1) => refAny_any (.slice a1 len1 cap1) ps (n % 2000) w1 (hp.keeps hk (fun _ _ h => h)) hps (by omega)
  have e1 : ((n % 2000 : Nat) : Int) = (n : Int) % 2000 := by omega
  rw [e1] at hA
  clear hp hps e1
  go_enter Try.func11, Try.ntmps11
  go_wp2_with fail
  refine (awake03_any _).mono ?_
  rintro e w1 ⟨rfl, hk1⟩
  go_wp2_with fail
  refine (hA _ hk1).mono ?_
  rintro e w2 ⟨sv, zs, rfl, hown, hzl, h01, hB, hk2⟩
  have k2 := hk1.trans hk2 (fun _ _ h => h)
  have hbl := bitsOf_length zs
  have hzl2 : zs.length ≤ 4000 := by omega
  have hM := made03_any sv zs w2 hown.sl (fun k hk => (hown.lt k hk).2) (by omega) hB
  clear hA hk1 hk2 hzl hB
  go_wp2_with fail
  refine hM.mono ?_
  rintro e w3 ⟨b, F, rfl, hP, hFw, hk3⟩
  have hown3 := hown.keeps hk3 (fun _ _ h => h)
  have k3 := k2.trans hk3 (fun _ _ h => h)
  have hFw3 : ∀ x, F x → w.heap.size ≤ x := fun x hx => Nat.le_trans k2.size (hFw x hx)
  have hlF : ∀ k, sv.ownBlock = some k → ¬ F k := fun k hk h => by have := (hown.lt k hk).2; have := hFw k h; omega
  clear hM hk3 hown k2 hFw
  have hF := hP.old
  have hA0 := hP.after
  have hfin : ∀ W done q, ParAfter w3 b (bitsOf zs) done q F W → Below w.heap.size w W := fun W done q h => (k3.trans h.2 (fun x hx h => by have := hFw3 x h; omega)).below (fun _ _ h => h)
  have hsl : ∀ W done q, ParAfter w3 b (bitsOf zs) done q F W → Sl .i64 W sv zs := fun W done q h => (hown3.keeps h.2 hlF).sl
  obtain ⟨sa, sc, rfl, hsc1, hsc2⟩ := hown3.form
  have HF := Lib.hid (And.intro hfin (And.intro hsl (And.intro hF hbl)))
  clear hfin hsl hF hP hown3 k3 hFw3 hlF hbl
  by_cases hi : 0 ≤ i ∧ i ≤ zs.length
  · obtain ⟨m, rfl⟩ := Int.eq_ofNat_of_zero_le hi.1
    have hm : m ≤ zs.length := by omega
    have hmb : m ≤ (bitsOf zs).length := by rw [HF.out.2.2.2]; exact hm
    have q1 := Excess_in HF.out.2.2.1 hA0 m (by omega) hmb
    have hxm := ex_abs (bitsOf zs) m (by rw [HF.out.2.2.2]; omega)
    clear hA0 hi
    go_wp2_with fail
    refine q1.mono ?_
    rintro e w4 ⟨rfl, h4⟩
    clear q1
    by_cases hj : (m : Int) ≤ j ∧ j ≤ zs.length
    · obtain ⟨k, rfl⟩ := Int.eq_ofNat_of_zero_le (show 0 ≤ j by omega)
      have hk : m ≤ k ∧ k ≤ zs.length := by omega
      obtain ⟨hk1, hk2⟩ := hk
      have q2 := Low_in HF.out.2.2.1 h4 m k (by omega) hk1 (by rw [HF.out.2.2.2]; exact hk2)
      clear h4 hj
      go_wp2_with fail
      refine q2.mono ?_
      rintro e w5 ⟨rfl, h5⟩
      have hs5 := HF.out.2.1 _ _ _ h5
      have hR := refExcess_any _ zs m w5 hs5 h01 (by omega) hm
      have hlo := lowN_abs (bitsOf zs) m (k - m) (by rw [HF.out.2.2.2]; omega)
      obtain ⟨sa', sc', hv, _, _, _, hc⟩ := hs5
      simp only [Value.slice.injEq] at hv
      obtain ⟨rfl, _, rfl⟩ := hv
      have HP := Lib.hid (HF.out.1 _ _ _ h5)
      clear q2 h5
      obtain ⟨x, hx⟩ : ∃ x, x = ex (bitsOf zs) m := ⟨_, rfl⟩
      rw [← hx] at hR hxm ⊢
      obtain ⟨lw, hlw⟩ : ∃ lw, lw = x + lowN (bitsOf zs) m (k - m) := ⟨_, rfl⟩
      rw [← hlw]
      have HX := Lib.hid (And.intro hx hlw)
      clear hx hlw hlo
      go_wp2_with (go_at_call 47; refine hR.mono ?_; rintro e w6 ⟨rfl, rfl⟩)
      clear hR
      all_goals
        go_loop [16, 17, 100] (fun lo at' i => ∃ p : Nat, p ≤ k - m ∧ i = .int .i64 p ∧ at' = .int .i64 (ex (bitsOf zs) (m + p)) ∧ lo = .int .i64 (x + lowN (bitsOf zs) m p)) (fun _ _ i => k - m - (intOf i).toNat)
        case atStart => exact ⟨0, Nat.zero_le _, rfl, by rw [Nat.add_zero, HX.out.1], by simp [lowN]⟩
        case round =>
          obtain ⟨p, hp, rfl, rfl, rfl⟩ := hrel
          have hx1 := ex_abs (bitsOf zs) (m + p) (by rw [HF.out.2.2.2]; omega)
          have hlo := lowN_abs (bitsOf zs) m p (by rw [HF.out.2.2.2]; omega)
          by_cases hlt : p < k - m
          · first
            | (exfalso; omega)
            | (have hz := List.getElem?_eq_getElem (l := zs) (i := m + p) (by omega)
               obtain ⟨g, off, rfl, hcell⟩ := hc (m + p) _ hz
               have hs := ex_succ (bitsOf zs) (p := m + p) (by rw [HF.out.2.2.2]; omega)
               unfold stepZ at hs
               rw [bit_back h01 hz] at hs
               have hzb := h01 _ (List.mem_of_getElem? hz)
               have hln : lowN (bitsOf zs) m (p + 1) = min (lowN (bitsOf zs) m p) (ex (bitsOf zs) (m + p + 1) - x) := by
                 rw [HX.out.1]; rfl
               generalize zs[m + p] = z at *
               have hzb2 : 0 ≤ z ∧ z ≤ 1 := by omega
               rw [← Nat.add_assoc] at hcell
               have HS := Lib.hid (And.intro hs hln)
               clear hz hc hs hzb hln
               generalize ex (bitsOf zs) (m + p) = y at *
               generalize lowN (bitsOf zs) m p = lo at *
               obtain ⟨l2, hl2, hl3⟩ : ∃ l2, l2 = min (x + lo) (y + (2 * z - 1)) ∧ (if y + (2 * z - 1) < x + lo then y + (2 * z - 1) else x + lo) = l2 := ⟨_, rfl, by split <;> omega⟩
               have HL := Lib.hid hl2
               clear hl2
               go_wp2
               go_round
               case rel => exact ⟨p + 1, by omega, by go_num, by rw [← Nat.add_assoc, HS.out.1], by
                 rw [HS.out.2, HS.out.1, HL.out]; congr 1; omega⟩
               case measure => simp [intOf]; omega)
          · obtain rfl : p = k - m := by omega
            have hlw := HX.out.2
            rw [← hlw]
            clear hc hlw
            go_wp2
            go_ret
            exact ⟨rfl, HP.out⟩
    · have q2 := Low_out b (bitsOf zs) m j w4 h4.idx (by rw [HF.out.2.2.2]; omega)
      go_wp2_with fail
      refine q2.mono ?_
      rintro e w5 ⟨rfl, rfl⟩
      have hR := refExcess_any _ zs m w4 (HF.out.2.1 _ _ _ h4) h01 (by omega) hm
      have HP := Lib.hid (HF.out.1 _ _ _ h4)
      generalize ex (bitsOf zs) m = x at *
      have hj2 : j < m ∨ ((m : Int) ≤ j ∧ (zs.length : Int) < j) := by omega
      clear q2 h4 hj
      rcases hj2 with h1 | ⟨h1, h2⟩
      all_goals
        go_wp2_with (go_at_call 47; refine hR.mono ?_; rintro e w6 ⟨rfl, rfl⟩)
        go_ret
        exact ⟨rfl, HP.out⟩
  · have q1 := Excess_out b (bitsOf zs) i w3 hA0.idx (by rw [HF.out.2.2.2]; exact hi)
    have q2 := Low_out b (bitsOf zs) i j w3 hA0.idx (by rw [HF.out.2.2.2]; omega)
    have HP := Lib.hid (HF.out.1 _ _ _ hA0)
    have hi2 : i < 0 ∨ (0 ≤ i ∧ (zs.length : Int) < i) := by omega
    clear hA0 hi
    rcases hi2 with h1 | ⟨h1, h2⟩
    all_goals
      go_wp2_with (first | (go_at_call 45; refine q1.mono ?_; rintro e w6 ⟨rfl, rfl⟩) | (go_at_call 46; refine q2.mono ?_; rintro e w6 ⟨rfl, rfl⟩))
      go_ret
      exact ⟨rfl, HP.out⟩

end Go.Proofs.Ytlciacpffoekjaa
