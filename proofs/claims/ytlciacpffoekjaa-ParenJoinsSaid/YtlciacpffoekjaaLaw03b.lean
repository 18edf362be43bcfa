/- Layer 3's statements: ParenIs. -/
import Derived.Test.YtlciacpffoekjaaLaw03a
namespace Go.Proofs.Ytlciacpffoekjaa
open Go.RowKit

theorem nats_few_01 (ps : List Nat) (most : Nat) : ∀ z ∈ nats (few ps most), z = 0 ∨ z = 1 := by
  intro z hz
  simp only [nats, List.mem_map] at hz
  obtain ⟨x, hx, rfl⟩ := hz
  have := few_bit ps most x hx
  omega

theorem atZ_out (l : List Bool) (i : Int) (h : ¬ (0 ≤ i ∧ i < l.length)) : atZ l i = -1 := by
  unfold atZ; rw [if_neg h]

set_option maxRecDepth 100000 in
set_option maxHeartbeats 4000000 in
theorem walkParenIs (a0 : Option Addr) (len0 cap0 : Nat) (z0 : List Int) (a1 : Int) (w : World) (w0 : RowIn .u8 w a0 len0 cap0 z0) (w1 : (Lit.int .u8 a1).wf = true) :
    Calls Try.prog 8 #[.slice a0 len0 cap0, .int .u8 a1] w fun e w' => e = .returned (.bool true) ∧ Below w.heap.size w w' := by
  have hnot : ∀ (x : Bool) (w : World), (Op.unary .not (.bool x)).run Try.prog w = .ok (.bool (!x)) w := fun _ _ => rfl
  obtain ⟨ps, hp, hps⟩ := w0.bytes
  obtain ⟨n, rfl, hn⟩ := u8_in w1
  clear w0 w1
  have hF := fun w1 (hk : Keeps (fun _ => False) w w1) => Few_any (.slice a0 len0 cap0) ps (n % 40) w1 (hp.keeps hk (fun _ _ h => h)) hps (by omega)
  have h01 := nats_few_01 ps (n % 40)
  have hzl : (nats (few ps (n % 40))).length ≤ 40 := by have := few_le ps (n % 40); simp [nats]; omega
  have e40 : ((n % 40 : Nat) : Int) = (n : Int) % 40 := by omega
  rw [e40] at hF
  generalize nats (few ps (n % 40)) = zs at *
  clear hp hps e40
  go_enter Try.func8, Try.ntmps8
  go_wp2_with fail
  refine (awake03_any _).mono ?_
  rintro e w1 ⟨rfl, hk1⟩
  go_wp2_with fail
  refine (hF _ hk1).mono ?_
  rintro e w2 ⟨sv, rfl, hown, hk2⟩
  have k2 := hk1.trans hk2 (fun _ _ h => h)
  go_wp2_with fail
  refine (new_any _).mono ?_
  rintro e w3 ⟨rfl, rfl⟩
  have k3 := (Keeps.refl (fun _ => False) w2).alloc (.cells #[.slice none 0 0, .int .i64 0] 111)
  have hbl := bitsOf_length zs
  have hA := Add_any w2.heap.size (.slice none 0 0) [] sv zs _ (vec_new w2) (hown.sl.keeps k3 (fun _ _ h => h)) (fun k hk => ⟨by have := (hown.lt k hk).2; omega, by simp [Value.ownBlock]⟩) (by simp; omega)
  clear hF
  go_wp2_with fail
  refine hA.mono ?_
  rintro e w4 ⟨rfl, v4, hv4, hk4, hf4⟩
  simp only [List.nil_append] at hv4
  have k4 : Keeps (fun _ => False) w2 w4 := k3.trans hk4 (fun x hx h => by
    rcases h with rfl | h
    · omega
    · simp [Value.ownBlock] at h)
  clear hA hk4 hf4 k3 hk1 hk2
  have hown4 := hown.keeps k4 (fun _ _ h => h)
  have k04 := k2.trans k4 (fun _ _ h => h)
  obtain ⟨sa, sc, rfl, hsc1, hsc2⟩ := hown4.form
  by_cases hB : Bal (bitsOf zs)
  · have hN := parNew_good w2.heap.size v4 (bitsOf zs) w4 hv4 (by omega) hB
    have HB := Lib.hid hB
    clear hB
    go_wp2_with fail
    refine hN.mono ?_
    rintro e w5 ⟨b, rfl, hP, hk5⟩
    have hown5 := hown4.keeps hk5 (fun _ _ h => h)
    have hG := refGood_any _ zs w5 hown5.sl h01 (by omega)
    have k5 := k04.trans hk5 (fun _ _ h => h)
    clear hN hown hown4 k04 hv4 k2 k4 hk5
    go_wp2_with fail
    refine hG.mono ?_
    rintro e w6 ⟨⟨t, rfl, ht⟩, rfl⟩
    obtain rfl : t = true := ht.2 HB.out
    clear ht hG
    have hI := hP.idx
    have hO := fun i => parOpen_any b (bitsOf zs) i w5 hI
    have hL := parLen_any b (bitsOf zs) w5 hI
    rw [hbl] at hL
    have HK := Lib.hid k5
    clear hP k5 hI
    go_wp2_with fail
    go_loop [9] (fun i => ∃ j : Int, -1 ≤ j ∧ j ≤ zs.length + 1 ∧ i = .int .i64 j) (fun i => (zs.length + 1 - intOf i).toNat)
    case atStart => exact ⟨-1, by omega, by omega, rfl⟩
    case round =>
      obtain ⟨j, hj1, hj2, rfl⟩ := hrel
      have hOj := hO j
      clear hO
      by_cases hin : 0 ≤ j ∧ j < zs.length
      · obtain ⟨m, rfl⟩ := Int.eq_ofNat_of_zero_le hin.1
        have hm : m < zs.length := by omega
        have hz := List.getElem?_eq_getElem (l := zs) (i := m) hm
        rw [open_bool (by omega), bitsOf_getD h01 hz] at hOj
        obtain ⟨g, rfl⟩ := own_some hown5 (by omega)
        obtain ⟨hcell, _⟩ := hown5.cell hz
        generalize zs[m] = z at *
        have hm0 : (0 : Int) ≤ (m : Int) := by omega
        have hm1 : (m : Int) < (zs.length : Int) := by omega
        have hm2 : (m : Int) ≤ (zs.length : Int) := by omega
        clear hz hown5 hin hj1 hj2
        generalize zs.length = L at *
        cases hz1 : (z == 1)
        · rw [hz1] at hOj
          go_wp2_with (go_at_call 38; refine hOj.mono ?_; rintro e w' ⟨rfl, rfl⟩)
          go_round
          case rel => exact ⟨m + 1, by omega, by omega, rfl⟩
          case measure => simp [intOf]; omega
        · rw [hz1] at hOj
          go_wp2_with (go_at_call 38; refine hOj.mono ?_; rintro e w' ⟨rfl, rfl⟩)
          go_round
          case rel => exact ⟨m + 1, by omega, by omega, rfl⟩
          case measure => simp [intOf]; omega
      · rw [atZ_out (bitsOf zs) j (by rw [hbl]; exact hin)] at hOj
        clear hown5
        by_cases hneg : j < 0
        · obtain rfl : j = -1 := by omega
          go_wp2_with (go_at_call 38; refine hOj.mono ?_; rintro e w' ⟨rfl, rfl⟩)
          go_round
          case rel => exact ⟨0, by omega, by omega, rfl⟩
          case measure => simp [intOf]; omega
        · by_cases hend : j = zs.length
          · subst hend
            clear hin
            go_wp2_with (go_at_call 38; refine hOj.mono ?_; rintro e w' ⟨rfl, rfl⟩)
            go_round
            case rel => exact ⟨zs.length + 1, by omega, by omega, rfl⟩
            case measure => simp [intOf]
          · have hgt : (zs.length : Int) < j := by omega
            clear hin hend
            go_wp2_with (go_at_call 39; refine hL.mono ?_; rintro e w' ⟨rfl, rfl⟩)
            go_ret
            exact ⟨rfl, HK.out.below (fun _ _ h => h)⟩
  · have hN := parNew_bad w2.heap.size v4 (bitsOf zs) w4 hv4 (by omega) hB
    have hG := refGood_any _ zs w4 hown4.sl h01 (by omega)
    have HB := Lib.hid hB
    have HK := Lib.hid k04
    clear hB hown hown4 k04 hv4 k2 k4
    go_wp2_with fail
    refine hN.mono ?_
    rintro e w5 ⟨rfl, rfl⟩
    go_wp2_with fail
    refine hG.mono ?_
    rintro e w6 ⟨⟨t, rfl, ht⟩, rfl⟩
    obtain rfl : t = false := by cases t with
      | false => rfl
      | true => exact absurd (ht.1 rfl) HB.out
    clear ht hG hN
    go_wp2
    go_ret
    exact ⟨rfl, HK.out.below (fun _ _ h => h)⟩

end Go.Proofs.Ytlciacpffoekjaa
