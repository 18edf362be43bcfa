/- Layer 3's statements: ParenOnce. -/
import Derived.Test.YtlciacpffoekjaaLaw03b
namespace Go.Proofs.Ytlciacpffoekjaa
open Go.RowKit

/-- A question to a Paren that hands back only its error. -/
def bt (d : Bool) : Int := if d then 1 else 0

theorem bt_bd (d : Bool) : 0 ≤ bt d ∧ bt d ≤ 1 := by cases d <;> simp [bt]

set_option maxRecDepth 100000 in
set_option maxHeartbeats 8000000 in
theorem walkParenOnce (a0 : Int) (a1 : Option Addr) (len1 cap1 : Nat) (z1 : List Int) (a2 : Option Addr) (len2 cap2 : Nat) (z2 : List Int) (w : World) (w0 : (Lit.int .u16 a0).wf = true) (w1 : RowIn .u8 w a1 len1 cap1 z1) (w2 : RowIn .i64 w a2 len2 cap2 z2) :
    Calls Try.prog 12 #[.int .u16 a0, .slice a1 len1 cap1, .slice a2 len2 cap2] w fun e w' => e = .returned (.bool true) ∧ Below w.heap.size w w' := by
  have hnot : ∀ (x : Bool) (w : World), (Op.unary .not (.bool x)).run Try.prog w = .ok (.bool (!x)) w := fun _ _ => rfl
  obtain ⟨ps, hp, hps⟩ := w1.bytes
  obtain ⟨n, rfl, hn⟩ := u16_in w0
  obtain ⟨hask, hal, _, _⟩ := w2.sl
  clear w0 w1 w2
  generalize z2.take len2 = asks at *
  subst hal
  obtain ⟨ka, kc, hkv, hk1, hk2, _, hkc⟩ := hask
  simp only [Value.slice.injEq] at hkv
  obtain ⟨rfl, _, rfl⟩ := hkv
  have hA := fun w1 (hk : Keeps (fun _ => False) w w1) => refAny_any (.slice a1 len1 cap1) ps (n % 1500) w1 (hp.keeps hk (fun _ _ h => h)) hps (by omega)
  have e1 : ((n % 1500 : Nat) : Int) = (n : Int) % 1500 := by omega
  rw [e1] at hA
  clear hp hps e1
  go_enter Try.func12, Try.ntmps12
  go_wp2_with fail
  refine (awake03_any _).mono ?_
  rintro e w1 ⟨rfl, hk1⟩
  go_wp2_with fail
  refine (hA _ hk1).mono ?_
  rintro e w2 ⟨sv, zs, rfl, hown, hzl, h01, hB, hk2⟩
  have k2 := hk1.trans hk2 (fun _ _ h => h)
  have hbl := bitsOf_length zs
  have hzl2 : zs.length ≤ 3000 := by omega
  have hM := made03_any sv zs w2 hown.sl (fun k hk => (hown.lt k hk).2) (by omega) hB
  clear hA hk1 hk2 hzl
  go_wp2_with fail
  refine hM.mono ?_
  rintro e w3 ⟨b, F, rfl, hP, hFw, hk3⟩
  have hfm := hown.form
  have k3 := k2.trans hk3 (fun _ _ h => h)
  have hFw3 : ∀ x, F x → w.heap.size ≤ x := fun x hx => Nat.le_trans k2.size (hFw x hx)
  clear hM hk3 hown k2 hFw
  have hF := hP.old
  have hA0 := hP.after
  have hB0 := parBuilt_any b (bitsOf zs) false 0 F w3 hP
  have hkw : ∀ W done q, ParAfter w3 b (bitsOf zs) done q F W → Keeps (fun _ => False) w W := fun W done q h => (k3.trans h.2 (fun x hx h => by have := hFw3 x h; omega))
  obtain ⟨sa, sc, rfl, hsc1, hsc2⟩ := hfm
  have HF := Lib.hid (And.intro hkw (And.intro hF (And.intro hB hbl)))
  clear hkw hF hP k3 hFw3 hbl hB h01
  go_wp2_with (go_at_call 48; refine hB0.mono ?_; rintro e w6 ⟨rfl, rfl⟩)
  clear hB0
  go_loopw [10, 46] (fun bu i wr => ∃ (k q : Nat) (d : Bool), k ≤ 20 ∧ k ≤ asks.length ∧ i = .int .i64 k ∧ bu = .int .i64 (bt d) ∧ q ≤ 4 * k ∧ ParAfter w3 b (bitsOf zs) d q F wr) (fun _ i _ => asks.length - (intOf i).toNat)
  case atStart => exact ⟨0, 0, false, by omega, by omega, rfl, rfl, by omega, hA0⟩
  case round =>
    obtain ⟨k, q, d, hk20, hkl, rfl, rfl, hq, hP⟩ := hrel
    clear hA0
    have hbd := bt_bd d
    by_cases hgo : k < asks.length ∧ k < 20
    · obtain ⟨hlt, h20⟩ := hgo
      obtain ⟨g, off, rfl, hcell⟩ := hkc k _ (List.getElem?_eq_getElem hlt)
      have hcell1 := (HF.out.1 _ _ _ hP).cellF hcell
      generalize asks[k] = i at *
      clear hkc hcell
      obtain h3 | h3 | h3 : k % 3 = 0 ∨ k % 3 = 1 ∨ k % 3 = 2 := by omega
      · have m0 : ((k : Int) % 3 == 0) = true := by rw [beq_iff_eq]; omega
        have m2 : ((k : Int) % 3 == 2) = false := by rw [beq_eq_false_iff_ne]; omega
        by_cases hin : 0 ≤ i ∧ i < zs.length
        · obtain ⟨m, rfl⟩ := Int.eq_ofNat_of_zero_le hin.1
          have hm : m < zs.length := by omega
          have hm0 : (0 : Int) ≤ (m : Int) := by omega
          have hm1 : (m : Int) ≤ (zs.length : Int) - 1 := by omega
          obtain ⟨x, hx⟩ := HF.out.2.2.1.mate (i := m) (by rw [HF.out.2.2.2]; exact hm)
          have q1 := Mate_in HF.out.2.1 hP m x (by omega) (by rw [HF.out.2.2.2]; exact hm) hx
          clear hx
          clear hP hin
          go_wp2_with fail
          refine q1.mono ?_
          rintro e w5 ⟨rfl, h5⟩
          have hB5 := parBuilt_any b (bitsOf zs) true _ _ w5 h5.1
          rw [if_pos rfl] at hB5
          have H5 := Lib.hid h5
          clear h5 q1
          go_wp2_with (go_at_call 48; refine hB5.mono ?_; rintro e w6 ⟨rfl, rfl⟩)
          go_roundw
          case rel => exact ⟨k + 1, _, true, by omega, by omega, by go_num, rfl, by omega, H5.out⟩
          case measure => simp [intOf]; omega
        · have hB5 := parBuilt_any b (bitsOf zs) d _ _ wr hP.1
          have hbt : (if d = true then (1 : Int) else 0) = bt d := rfl
          rw [hbt] at hB5
          have q1 := Mate_out b (bitsOf zs) i wr hP.idx (by rw [HF.out.2.2.2]; exact hin)
          have H5 := Lib.hid hP
          have hi2 : i < 0 ∨ (0 ≤ i ∧ (zs.length : Int) - 1 < i) := by omega
          clear hP hin hbt
          generalize hbt : bt d = bd at *
          have HB := Lib.hid (congrArg (Value.int IntKind.i64) hbt).symm
          clear hbt
          rcases hi2 with h1 | ⟨h1, h2⟩
          all_goals
            go_wp2_with fail
            refine q1.mono ?_
            rintro e w5 ⟨rfl, rfl⟩
            go_wp2_with (go_at_call 48; refine hB5.mono ?_; rintro e w6 ⟨rfl, rfl⟩)
            go_roundw
            case rel => exact ⟨k + 1, q, d, by omega, by omega, by go_num, HB.out, by omega, H5.out⟩
            case measure => simp [intOf]; omega
      · have m0 : ((k : Int) % 3 == 0) = false := by rw [beq_eq_false_iff_ne]; omega
        have m1 : ((k : Int) % 3 == 1) = true := by rw [beq_iff_eq]; omega
        have m2 : ((k : Int) % 3 == 2) = false := by rw [beq_eq_false_iff_ne]; omega
        by_cases hin : 0 ≤ i ∧ i < zs.length
        · obtain ⟨m, rfl⟩ := Int.eq_ofNat_of_zero_le hin.1
          have hm : m < zs.length := by omega
          have hm0 : (0 : Int) ≤ (m : Int) := by omega
          have hm1 : (m : Int) ≤ (zs.length : Int) - 1 := by omega
          obtain ⟨x, hx⟩ := HF.out.2.2.1.round (i := m) (by rw [HF.out.2.2.2]; exact hm)
          have q1 := Round_in HF.out.2.1 hP m x (by omega) (by rw [HF.out.2.2.2]; exact hm) hx
          clear hx
          clear hP hin
          go_wp2_with fail
          refine q1.mono ?_
          rintro e w5 ⟨rfl, h5⟩
          have hB5 := parBuilt_any b (bitsOf zs) true _ _ w5 h5.1
          rw [if_pos rfl] at hB5
          have H5 := Lib.hid h5
          clear h5 q1
          go_wp2_with (go_at_call 48; refine hB5.mono ?_; rintro e w6 ⟨rfl, rfl⟩)
          go_roundw
          case rel => exact ⟨k + 1, _, true, by omega, by omega, by go_num, rfl, by omega, H5.out⟩
          case measure => simp [intOf]; omega
        · have hB5 := parBuilt_any b (bitsOf zs) d _ _ wr hP.1
          have hbt : (if d = true then (1 : Int) else 0) = bt d := rfl
          rw [hbt] at hB5
          have q1 := Round_out b (bitsOf zs) i wr hP.idx (by rw [HF.out.2.2.2]; exact hin)
          have H5 := Lib.hid hP
          have hi2 : i < 0 ∨ (0 ≤ i ∧ (zs.length : Int) - 1 < i) := by omega
          clear hP hin hbt
          generalize hbt : bt d = bd at *
          have HB := Lib.hid (congrArg (Value.int IntKind.i64) hbt).symm
          clear hbt
          rcases hi2 with h1 | ⟨h1, h2⟩
          all_goals
            go_wp2_with fail
            refine q1.mono ?_
            rintro e w5 ⟨rfl, rfl⟩
            go_wp2_with (go_at_call 48; refine hB5.mono ?_; rintro e w6 ⟨rfl, rfl⟩)
            go_roundw
            case rel => exact ⟨k + 1, q, d, by omega, by omega, by go_num, HB.out, by omega, H5.out⟩
            case measure => simp [intOf]; omega
      · have m0 : ((k : Int) % 3 == 0) = false := by rw [beq_eq_false_iff_ne]; omega
        have m1 : ((k : Int) % 3 == 1) = false := by rw [beq_eq_false_iff_ne]; omega
        have m2 : ((k : Int) % 3 == 2) = true := by rw [beq_iff_eq]; omega
        by_cases hin : 0 ≤ i ∧ i ≤ zs.length
        · obtain ⟨m, rfl⟩ := Int.eq_ofNat_of_zero_le hin.1
          have hm : m ≤ zs.length := by omega
          have hm0 : (0 : Int) ≤ (m : Int) := by omega
          have hm1 : (m : Int) ≤ (zs.length : Int) := by omega
          have q1 := Low_in HF.out.2.1 hP m m (by omega) (Nat.le_refl _) (by rw [HF.out.2.2.2]; exact hm)
          generalize ex (bitsOf zs) m + lowN (bitsOf zs) m (m - m) = x at *
          clear hP hin
          go_wp2_with fail
          refine q1.mono ?_
          rintro e w5 ⟨rfl, h5⟩
          have hB5 := parBuilt_any b (bitsOf zs) true _ _ w5 h5.1
          rw [if_pos rfl] at hB5
          have H5 := Lib.hid h5
          clear h5 q1
          go_wp2_with (go_at_call 48; refine hB5.mono ?_; rintro e w6 ⟨rfl, rfl⟩)
          go_roundw
          case rel => exact ⟨k + 1, _, true, by omega, by omega, by go_num, rfl, by omega, H5.out⟩
          case measure => simp [intOf]; omega
        · have hB5 := parBuilt_any b (bitsOf zs) d _ _ wr hP.1
          have hbt : (if d = true then (1 : Int) else 0) = bt d := rfl
          rw [hbt] at hB5
          have q1 := Low_out b (bitsOf zs) i i wr hP.idx (by rw [HF.out.2.2.2]; omega)
          have H5 := Lib.hid hP
          have hi2 : i < 0 ∨ (0 ≤ i ∧ (zs.length : Int) < i) := by omega
          clear hP hin hbt
          generalize hbt : bt d = bd at *
          have HB := Lib.hid (congrArg (Value.int IntKind.i64) hbt).symm
          clear hbt
          rcases hi2 with h1 | ⟨h1, h2⟩
          all_goals
            go_wp2_with fail
            refine q1.mono ?_
            rintro e w5 ⟨rfl, rfl⟩
            go_wp2_with (go_at_call 48; refine hB5.mono ?_; rintro e w6 ⟨rfl, rfl⟩)
            go_roundw
            case rel => exact ⟨k + 1, q, d, by omega, by omega, by go_num, HB.out, by omega, H5.out⟩
            case measure => simp [intOf]; omega
    · have hcase : asks.length ≤ k ∨ (k < asks.length ∧ ∃ g off z, a2 = some ⟨g, off, none⟩ ∧ wr.cell? ⟨g, off + k, none⟩ = some (.int .i64 z) ∧ 20 ≤ k) := by
        by_cases hlt : k < asks.length
        · obtain ⟨g, off, rfl, hcell⟩ := hkc k _ (List.getElem?_eq_getElem hlt)
          exact .inr ⟨hlt, g, off, _, rfl, (HF.out.1 _ _ _ hP).cellF hcell, by omega⟩
        · exact .inl (by omega)
      have HP := Lib.hid (HF.out.1 _ _ _ hP)
      obtain ⟨h, hh⟩ := IsH.ex (bitsOf zs)
      have hS := parSize_any b (bitsOf zs) h wr hP.idx hh
      have hhb := hh.bound (by rw [HF.out.2.2.2]; omega)
      have HH := Lib.hid hh
      clear hkc hgo hP hbd hh
      rcases hcase with h1 | ⟨h1, g, off, z, rfl, hcell, h20⟩
      all_goals
        go_wp2_with fail
        go_loop [15] (fun n => ∃ j : Nat, j ≤ h ∧ n = .int .i64 ((2 ^ j : Nat) : Int)) (fun n => 2 ^ h - (intOf n).toNat)
        case atStart => exact ⟨0, Nat.zero_le _, rfl⟩
        case round =>
          obtain ⟨j, hj, rfl⟩ := hrel
          have hj1 : 2 ^ j ≤ 2 ^ h := Nat.pow_le_pow_right (by decide) hj
          have hj2 := Nat.two_pow_pos j
          by_cases hlt : j < h
          · have h1 := HH.out.2 j hlt
            rw [HF.out.2.2.2] at h1
            have h2 : 2 ^ (j + 1) ≤ 2 ^ h := Nat.pow_le_pow_right (by decide) hlt
            have h3 : 2 ^ (j + 1) = 2 ^ j * 2 := Nat.pow_succ 2 j
            have HT := Lib.hid h3
            rw [h3] at h2
            clear h3
            generalize 2 ^ j = x at *
            go_wp2
            go_round
            case rel => exact ⟨j + 1, by omega, by rw [HT.out]; go_num⟩
            case measure => simp [intOf]; omega
          · obtain rfl : j = h := by omega
            have h1 := HH.out.1
            rw [HF.out.2.2.2] at h1
            clear hj1
            generalize 2 ^ j = x at *
            go_wp2_with (first | (go_at_call 43; refine (Mate_nil _ _).mono ?_; rintro e w6 ⟨rfl, rfl⟩) | (go_at_call 44; refine (Round_nil _ _).mono ?_; rintro e w6 ⟨rfl, rfl⟩) | (go_at_call 46; refine (Low_nil _ _ _).mono ?_; rintro e w6 ⟨rfl, rfl⟩) | (go_at_call 45; refine (Excess_nil _ _).mono ?_; rintro e w6 ⟨rfl, rfl⟩) | (go_at_call 49; (with_reducible refine hS.mono ?_); rintro e w6 ⟨rfl, rfl⟩) | (go_at_call 49; refine (parSize_nil _).mono ?_; rintro e w6 ⟨rfl, rfl⟩) | (go_at_call 39; refine (parLen_nil _).mono ?_; rintro e w6 ⟨rfl, rfl⟩) | (go_at_call 48; refine (parBuilt_nil _).mono ?_; rintro e w6 ⟨rfl, rfl⟩) | (go_at_call 38; refine (parOpen_nil _ _).mono ?_; rintro e w6 ⟨rfl, rfl⟩))
            go_ret
            exact ⟨rfl, HP.out.below (fun _ _ h => h)⟩

end Go.Proofs.Ytlciacpffoekjaa
