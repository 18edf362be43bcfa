/- Layer 2's statements: RankRaw. -/
import Derived.Test.YtlciacpffoekjaaRef02
namespace Go.Proofs.Ytlciacpffoekjaa
open Go.RowKit

/-- Where the reference finds it the document has it, and nowhere else. -/
theorem sel_ref {zs : List Int} (h : ∀ z ∈ zs, z = 0 ∨ z = 1) {bit k : Int} (hb : bit = 0 ∨ bit = 1) {n m : Nat} (h1 : IsSel (bitsOf zs) bit k n) (h2 : zs[m]? = some bit) (h3 : (cntZ (zs.take m) bit : Int) = k) : n = m := by
  have hm : m < zs.length := by
    rcases Nat.lt_or_ge m zs.length with h' | h'
    · exact h'
    · rw [List.getElem?_eq_none h'] at h2; cases h2
  exact h1.unique hb ⟨by rw [bitsOf_length]; exact hm, bit_back h h2, by rw [rk_cntZ h bit hb m (by omega)]; exact h3⟩

theorem cnt_all {zs : List Int} (h : ∀ z ∈ zs, z = 0 ∨ z = 1) {bit : Int} (hb : bit = 0 ∨ bit = 1) : rk (bitsOf zs) bit (bitsOf zs).length = cntZ zs bit := by
  rw [bitsOf_length, rk_cntZ h bit hb _ (Nat.le_refl _), List.take_of_length_le (Nat.le_refl _)]

theorem found_lt {zs : List Int} {bit : Int} {m : Nat} (h2 : zs[m]? = some bit) : cntZ (zs.take m) bit < cntZ zs bit := by
  have hm : m < zs.length := by
    rcases Nat.lt_or_ge m zs.length with h' | h'
    · exact h'
    · rw [List.getElem?_eq_none h'] at h2; cases h2
  have h1 := cntZ_snoc zs bit m bit h2
  rw [if_pos rfl] at h1
  have h3 : zs = zs.take (m + 1) ++ zs.drop (m + 1) := (List.take_append_drop _ _).symm
  have h4 : cntZ zs bit = cntZ (zs.take (m + 1)) bit + cntZ (zs.drop (m + 1)) bit := by
    conv => lhs; rw [h3]
    unfold cntZ
    rw [List.filter_append, List.length_append]
  omega

set_option maxRecDepth 100000 in
set_option maxHeartbeats 4000000 in
theorem walkRankRaw (a0 : Option Addr) (len0 cap0 : Nat) (z0 : List Int) (a1 : Int) (bit : Int) (i : Int) (w : World) (w0 : RowIn .u8 w a0 len0 cap0 z0) (w1 : (Lit.int .u8 a1).wf = true) (_ : (Lit.int .i64 bit).wf = true) (w3 : (Lit.int .i64 i).wf = true) :
    Calls Try.prog 4 #[.slice a0 len0 cap0, .int .u8 a1, .int .i64 bit, .int .i64 i] w fun e w' => e = .returned (.bool true) ∧ Below w.heap.size w w' := by
  have hnot : ∀ (x : Bool) (w : World), (Op.unary .not (.bool x)).run Try.prog w = .ok (.bool (!x)) w := fun _ _ => rfl
  obtain ⟨ps, hp, hps⟩ := w0.bytes
  obtain ⟨most, rfl, hm⟩ := u8_in w1
  have hi := bounds_i64 w3
  clear w0 w1 w3
  go_enter Try.func4, Try.ntmps4
  go_wp2_with (go_at_call 18; refine (awake02_any _).mono ?_; rintro e w1 ⟨rfl, hk1⟩)
  refine (made02_law _ ps most 0 w1 (hp.keeps hk1 (fun _ _ h => h)) hps hm (by omega)).mono ?_
  rintro e w2 ⟨b, lv, F, zs, rfl, hzs, h01, hzl, hI, hF, hFw, hl, hlF, hk2⟩
  clear hzs hp hps
  have hlb := bitsOf_length zs
  have hFw2 : ∀ x, F x → w.heap.size ≤ x := fun x hx => Nat.le_trans hk1.size (hFw x hx)
  have hfin : ∀ W done asked, IdxAfter w2 b (bitsOf zs) done asked F W → Below w.heap.size w W := fun W done asked h =>
    ((hk1.trans hk2 (fun _ _ h => h)).trans h.2 (fun x hx hf => by have := hFw2 x hf; omega)).below (fun _ _ h => h)
  have HF := Lib.hid hfin
  have hslW : ∀ W done asked, IdxAfter w2 b (bitsOf zs) done asked F W → Sl .i64 W lv zs := fun W done asked h => (hl.keeps h.2 hlF).sl
  clear hfin hk1 hk2 hFw hFw2
  obtain ⟨la, lc, rfl, hlc, hlc2⟩ := hl.form
  have HS := Lib.hid hslW
  have H01 := Lib.hid h01
  clear hslW hl hlF h01
  by_cases hbit : bit = 0 ∨ bit = 1
  · by_cases hi0 : 0 ≤ i
    · obtain ⟨n, rfl⟩ := Int.eq_ofNat_of_zero_le hi0
      have hall := cnt_all H01.out hbit
      by_cases hn : n ≤ zs.length
      · have hR := Rank_in' hF hI bit n (by omega) hbit (by omega)
        rw [rk_cntZ H01.out bit hbit n hn] at hR
        go_wp2_with fail
        refine hR.mono ?_
        rintro e w3 ⟨rfl, hI3⟩
        clear hR
        by_cases hk : (n : Int) < cntZ zs bit
        · have hS := Select_in' hF hI3 bit n (by omega) hbit (by omega) (by rw [hall]; exact hk)
          go_wp2_with fail
          refine hS.mono ?_
          rintro e w4 ⟨at_, rfl, hat, hI4⟩
          clear hS
          have hRR := refRank_in _ zs bit n w4 (HS.out w4 _ _ hI4) hbit hn (by omega)
          have hRS := refSel_good _ zs bit n w4 (HS.out w4 _ _ hI4) hbit hi0 (by omega) (by omega)
          have hA := idxAsked_any b _ _ _ _ w4 hI4.1
          have HI4 := Lib.hid (And.intro hat (And.intro hI4 hk))
          clear hat hI4 hI3 hI hk hall
          generalize cntZ (zs.take n) bit = c at *
          go_wp2_with fail
          refine hRR.mono ?_
          rintro e w5 ⟨rfl, rfl⟩
          go_wp2_with fail
          refine hRS.mono ?_
          rintro e w5 ⟨hsel, rfl⟩
          rcases hsel with ⟨m, rfl, hm1, hm2⟩ | ⟨rfl, hm1⟩
          · obtain rfl := sel_ref H01.out hbit HI4.out.1 hm1 hm2
            clear hRR hRS hm1 hm2
            go_wp2_with (go_at_call 24; refine hA.mono ?_; rintro e w6 ⟨rfl, rfl⟩)
            go_ret
            exact ⟨rfl, HF.out _ _ _ HI4.out.2.1⟩
          · have := HI4.out.2.2
            omega
        · have hS := Select_out' hF hI3 bit n (by omega) (by rw [hall]; omega)
          go_wp2_with fail
          refine hS.mono ?_
          rintro e w4 ⟨rfl, hI4⟩
          clear hS
          have hRR := refRank_in _ zs bit n w4 (HS.out w4 _ _ hI4) hbit hn (by omega)
          have hRS := refSel_good _ zs bit n w4 (HS.out w4 _ _ hI4) hbit hi0 (by omega) (by omega)
          have hA := idxAsked_any b _ _ _ _ w4 hI4.1
          have HI4 := Lib.hid hI4
          have HK := Lib.hid hk
          clear hk hall
          generalize cntZ (zs.take n) bit = c at *
          clear hI4 hI3 hI
          go_wp2_with fail
          refine hRR.mono ?_
          rintro e w5 ⟨rfl, rfl⟩
          go_wp2_with fail
          refine hRS.mono ?_
          rintro e w5 ⟨hsel, rfl⟩
          rcases hsel with ⟨m, rfl, hm1, hm2⟩ | ⟨rfl, hm1⟩
          · have := found_lt hm1
            have := HK.out
            omega
          · clear hm1
            clear hRR hRS
            go_wp2_with (go_at_call 24; refine hA.mono ?_; rintro e w6 ⟨rfl, rfl⟩)
            go_ret
            exact ⟨rfl, HF.out _ _ _ HI4.out⟩
      · have hR := Rank_out' hF hI bit n (by omega) (by omega)
        go_wp2_with fail
        refine hR.mono ?_
        rintro e w3 ⟨rfl, hI3⟩
        clear hR
        have hS := Select_out' hF hI3 bit n (by omega) (by rw [hall]; have := cntZ_le zs bit; omega)
        go_wp2_with fail
        refine hS.mono ?_
        rintro e w4 ⟨rfl, hI4⟩
        clear hS
        have hRR := refRank_out _ zs bit n w4 (HS.out w4 _ _ hI4) (by omega)
        have hRS := refSel_good _ zs bit n w4 (HS.out w4 _ _ hI4) hbit hi0 (by omega) (by omega)
        have hA := idxAsked_any b _ _ _ _ w4 hI4.1
        have HI4 := Lib.hid hI4
        clear hall
        clear hI4 hI3 hI
        go_wp2_with fail
        refine hRR.mono ?_
        rintro e w5 ⟨rfl, rfl⟩
        go_wp2_with fail
        refine hRS.mono ?_
        rintro e w5 ⟨hsel, rfl⟩
        rcases hsel with ⟨m, rfl, hm1, hm2⟩ | ⟨rfl, hm1⟩
        · have := found_lt hm1
          have := cntZ_le zs bit
          omega
        · clear hm1
          clear hRR hRS
          go_wp2_with (go_at_call 24; refine hA.mono ?_; rintro e w6 ⟨rfl, rfl⟩)
          go_ret
          exact ⟨rfl, HF.out _ _ _ HI4.out⟩
    · have hR := Rank_out' hF hI bit i (by omega) (by omega)
      go_wp2_with fail
      refine hR.mono ?_
      rintro e w3 ⟨rfl, hI3⟩
      clear hR
      have hS := Select_out' hF hI3 bit i (by omega) (by omega)
      go_wp2_with fail
      refine hS.mono ?_
      rintro e w4 ⟨rfl, hI4⟩
      clear hS
      have hRR := refRank_out _ zs bit i w4 (HS.out w4 _ _ hI4) (by omega)
      have hRS := refSel_below _ zs bit i w4 (HS.out w4 _ _ hI4) hbit (by omega)
      have hA := idxAsked_any b _ _ _ _ w4 hI4.1
      have HI4 := Lib.hid hI4
      clear hI4 hI3 hI
      go_wp2_with fail
      refine hRR.mono ?_
      rintro e w5 ⟨rfl, rfl⟩
      go_wp2_with fail
      refine hRS.mono ?_
      rintro e w5 ⟨⟨m, ok, hm9, rfl⟩, rfl⟩
      have td : decide (0 ≤ i) = false := by simp; omega
      have hi1 : i < 0 := by omega
      cases ok
      · clear hRR hRS
        go_wp2_with (go_at_call 24; refine hA.mono ?_; rintro e w6 ⟨rfl, rfl⟩)
        go_ret
        exact ⟨rfl, HF.out _ _ _ HI4.out⟩
      · clear hRR hRS
        go_wp2_with (go_at_call 24; refine hA.mono ?_; rintro e w6 ⟨rfl, rfl⟩)
        go_ret
        exact ⟨rfl, HF.out _ _ _ HI4.out⟩
  · have hR := Rank_out' hF hI bit i (by omega) (by omega)
    go_wp2_with fail
    refine hR.mono ?_
    rintro e w3 ⟨rfl, hI3⟩
    clear hR
    have hS := Select_out' hF hI3 bit i (by omega) (by omega)
    go_wp2_with fail
    refine hS.mono ?_
    rintro e w4 ⟨rfl, hI4⟩
    clear hS
    have hRR := refRank_out _ zs bit i w4 (HS.out w4 _ _ hI4) (by omega)
    have hRS := refSel_bad _ zs bit i w4 (HS.out w4 _ _ hI4) hbit
    have hA := idxAsked_any b _ _ _ _ w4 hI4.1
    have HI4 := Lib.hid hI4
    clear hbit
    clear hI4 hI3 hI
    go_wp2_with fail
    refine hRR.mono ?_
    rintro e w5 ⟨rfl, rfl⟩
    go_wp2_with fail
    refine hRS.mono ?_
    rintro e w5 ⟨rfl, rfl⟩
    clear hRR hRS
    go_wp2_with (go_at_call 24; refine hA.mono ?_; rintro e w6 ⟨rfl, rfl⟩)
    go_ret
    exact ⟨rfl, HF.out _ _ _ HI4.out⟩

end Go.Proofs.Ytlciacpffoekjaa
