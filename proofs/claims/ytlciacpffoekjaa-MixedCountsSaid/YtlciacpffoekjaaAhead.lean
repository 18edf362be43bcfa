/- The contracts of package paren: the tree as it is read; ahead. -/
import Derived.Test.YtlciacpffoekjaaParen2
namespace Go.Proofs.Ytlciacpffoekjaa
open Go.RowKit

/-- The laws of a tree over L leaves: where a node begins, how wide it is. -/
structure TL (L : Nat) (ts tw : Nat → Nat) : Prop where
  up : ∀ k, 2 ≤ k → k < 2 * L → k % 2 = 1 → ts (k / 2) + tw (k / 2) = ts k + tw k
  right : ∀ k, 2 ≤ k → k < 2 * L → k % 2 = 0 → ts (k + 1) = ts k + tw k
  kids : ∀ k, 1 ≤ k → k < L → ts (2 * k) = ts k ∧ ts (2 * k + 1) = ts k + tw (2 * k) ∧ tw (2 * k + 1) = tw (2 * k) ∧ tw k = tw (2 * k) + tw (2 * k)
  leaf : ∀ b, b < L → ts (L + b) = 512 * b
  leafw : ∀ b, b < L → tw (L + b) = 512
  root : ts 1 + tw 1 = 512 * L
  pos : ∀ k, 512 ≤ tw k

theorem TL.of (h : Nat) : TL (2 ^ h) (tstart h) (twidth h) :=
  ⟨tup h, tright h, tkids h, tstart_leaf h, twidth_leaf h, by rw [tstart_root, twidth_root]; omega, twidth_pos h⟩

/-- What is read off a Paren whose tree is made. -/
theorem parRead {w : World} {b : Nat} {l : List Bool} {q : Nat} {F : Nat → Prop} (h : ParAt w b l true q F) :
    ∃ L ts tw g, TL L ts tw ∧ l.length ≤ 512 * L ∧ 1 ≤ L ∧ L ≤ 400000 ∧ w.cell? ⟨b, 4, none⟩ = some (.slice (some ⟨g, 0, none⟩) (2 * L) (2 * L)) ∧ F g ∧
      (∀ W, PIdx W b l → Calls Try.prog 91 #[.pointer (some ⟨b, 0, none⟩)] W fun e w' => e = .returned (.int .i64 L) ∧ W = w') ∧
      ∀ k, 1 ≤ k → k < 2 * L → w.cell? ⟨g, k * 2, none⟩ = some (.int .i64 (ex l (ts k + tw k) - ex l (ts k))) ∧ w.cell? ⟨g, k * 2 + 1, none⟩ = some (.int .i64 (lowN l (ts k) (tw k))) := by
  have hle := h.idx.le
  obtain ⟨⟨bi, tv, FI, dI, asked, hb, hI, hq, hFI, Fb, nb, htv, h, g, hh, rfl, hg, hc⟩, hold⟩ := h
  exact ⟨2 ^ h, tstart h, twidth h, g, TL.of h, hh.1, (hh.bound hle).1, (hh.bound hle).2, World.cell_of_heap hb 4, (htv g rfl).1, fun W hW => parLeaves_any b l h W hW hh, hc⟩

theorem lowN_abs (l : List Bool) (a m : Nat) (h : l.length ≤ 100000000) : -200000000 ≤ lowN l a m ∧ lowN l a m ≤ 0 := by
  have := lowN_bound l a m
  have := lowN_neg l a m
  omega

set_option maxRecDepth 100000 in
set_option maxHeartbeats 2000000 in
theorem ahead_any {wh wr : World} {b : Nat} {l : List Bool} {q : Nat} {F : Nat → Prop} (hF : ∀ x, F x → x < wh.heap.size) (h : ParAfter wh b l true q F wr) (i T : Nat) (hq : q < 1000000000000) (hT : IsAhead l i T) :
    Calls Try.prog 114 #[.pointer (some ⟨b, 0, none⟩), .int .i64 i] wr fun e w' => e = .returned (.int .i64 T) ∧ ParAfter wh b l true (q + 2) F w' := by
  have hle := h.idx.le
  have hiT := hT.lt
  have hTn := hT.le
  have hE1 := parExcess_any hF h i (by omega) (by omega)
  have hxi := ex_abs l i hle
  have HT := Lib.hid hT
  clear hT h
  obtain ⟨y, hy⟩ : ∃ y, ex l i = y := ⟨_, rfl⟩
  have HY := Lib.hid hy
  rw [hy] at hE1 hxi
  clear hy
  go_enter Try.func114, Try.ntmps114
  go_wp2_with fail
  refine hE1.mono ?_
  rintro e w1 ⟨rfl, h1⟩
  have hE2 := parExcess_any hF h1 i (by omega) (by omega)
  rw [HY.out] at hE2
  clear h1 hE1
  go_wp2_with fail
  refine hE2.mono ?_
  rintro e w2 ⟨rfl, h2⟩
  clear hE2
  have hP := h2.idx
  obtain ⟨L, ts, tw, g, hTL, hnL, hL1, hL2, c4, _, hLv, hnode⟩ := parRead h2.1
  have hLv := hLv w2 hP
  have H2 := Lib.hid (And.intro h2 (And.intro hTL hnode))
  clear h2 hTL hnode
  go_wp2_with fail
  go_loop [6, 7] (fun at' e => ∃ k : Nat, i ≤ k ∧ k < T ∧ at' = .int .i64 k ∧ e = .int .i64 (ex l k)) (fun at' _ => T - (intOf at').toNat)
  case atStart => exact ⟨i, Nat.le_refl _, hiT, rfl, by rw [HY.out]⟩
  case round =>
    obtain ⟨k, hk1, hk2, rfl, rfl⟩ := hrel
    have hxk := ex_abs l k hle
    by_cases hc : ¬ (k : Int) % 512 = 0 ∨ k = i
    · have hS := parStep_any b l k w2 hP (by omega)
      have hsc := stepZ_cases l k
      have hs := ex_succ l (p := k) (by omega)
      have hiff := HT.out.iff (p := k + 1) (by omega) (by omega)
      rw [HY.out, hs] at hiff
      have HS := Lib.hid hs
      clear hs
      by_cases hend : k + 1 = T
      · have te : (ex l k + stepZ l k == y - 1) = true := by rw [beq_iff_eq]; exact hiff.2 hend
        clear hiff
        generalize ex l k = x at *
        generalize stepZ l k = z at *
        rcases hc with hc | rfl
        · have tm : ((k : Int) % 512 != 0) = true := by simp only [bne_iff_ne]; exact hc
          go_wp2_with (go_at_call 92; refine hS.mono ?_; rintro e w' ⟨rfl, rfl⟩)
          go_ret
          exact ⟨ret_int (by omega), H2.out.1⟩
        · by_cases hc : (k : Int) % 512 = 0
          · have tm : ((k : Int) % 512 != 0) = false := by simp only [bne_eq_false_iff_eq]; exact hc
            go_wp2_with (go_at_call 92; refine hS.mono ?_; rintro e w' ⟨rfl, rfl⟩)
            go_ret
            exact ⟨ret_int (by omega), H2.out.1⟩
          · have tm : ((k : Int) % 512 != 0) = true := by simp only [bne_iff_ne]; exact hc
            go_wp2_with (go_at_call 92; refine hS.mono ?_; rintro e w' ⟨rfl, rfl⟩)
            go_ret
            exact ⟨ret_int (by omega), H2.out.1⟩
      · have te : (ex l k + stepZ l k == y - 1) = false := by rw [beq_eq_false_iff_ne]; exact fun h => hend (hiff.1 h)
        clear hiff
        generalize ex l k = x at *
        generalize stepZ l k = z at *
        rcases hc with hc | rfl
        · have tm : ((k : Int) % 512 != 0) = true := by simp only [bne_iff_ne]; exact hc
          go_wp2_with (go_at_call 92; refine hS.mono ?_; rintro e w' ⟨rfl, rfl⟩)
          go_round
          case rel => exact ⟨k + 1, by omega, by omega, by go_num, by rw [HS.out]⟩
          case measure => simp [intOf]; omega
        · by_cases hc : (k : Int) % 512 = 0
          · have tm : ((k : Int) % 512 != 0) = false := by simp only [bne_eq_false_iff_eq]; exact hc
            go_wp2_with (go_at_call 92; refine hS.mono ?_; rintro e w' ⟨rfl, rfl⟩)
            go_round
            case rel => exact ⟨k + 1, by omega, by omega, by go_num, by rw [HS.out]⟩
            case measure => simp [intOf]; omega
          · have tm : ((k : Int) % 512 != 0) = true := by simp only [bne_iff_ne]; exact hc
            go_wp2_with (go_at_call 92; refine hS.mono ?_; rintro e w' ⟨rfl, rfl⟩)
            go_round
            case rel => exact ⟨k + 1, by omega, by omega, by go_num, by rw [HS.out]⟩
            case measure => simp [intOf]; omega
    · have hm : (k : Int) % 512 = 0 := Decidable.not_not.1 (fun h => hc (.inl h))
      have hki : ¬ k = i := fun h => hc (.inr h)
      clear hc
      have tm : ((k : Int) % 512 != 0) = false := by simp only [bne_eq_false_iff_eq]; exact hm
      have ti : ((k : Int) == (i : Int)) = false := by simp only [beq_eq_false_iff_ne]; omega
      have hkL : k / 512 < L := by omega
      have hst : ts (L + k / 512) = k := by rw [H2.out.2.1.leaf _ hkL]; omega
      have HST := Lib.hid hst
      clear hst
      obtain ⟨x, hx⟩ : ∃ x, ex l k = x := ⟨_, rfl⟩
      have HX := Lib.hid hx
      rw [hx]
      clear hx
      go_wp2_with (go_at_call 91; refine hLv.mono ?_; rintro e w' ⟨rfl, rfl⟩)
      go_loop [7, 8] (fun e kk => ∃ j : Nat, 1 ≤ j ∧ j < 2 * L ∧ i ≤ ts j ∧ ts j < T ∧ kk = .int .i64 j ∧ e = .int .i64 (ex l (ts j))) (fun _ kk => 512 * L - ts (intOf kk).toNat)
      case atStart => exact ⟨L + k / 512, by omega, by omega, by rw [HST.out]; omega, by rw [HST.out]; omega, by go_num, by rw [HST.out, HX.out]⟩
      case round =>
        obtain ⟨j, hj1, hj2, hj3, hj4, rfl, rfl⟩ := hrel
        obtain ⟨n0, n1⟩ := H2.out.2.2 j hj1 hj2
        obtain ⟨hp1, hp2⟩ := HT.out.pass (a := ts j) (m := tw j) hj3
        rw [HY.out] at hp1 hp2
        have hb1 := ex_abs l (ts j) hle
        have hb2 := ex_abs l (ts j + tw j) hle
        have hb3 := lowN_abs l (ts j) (tw j) hle
        by_cases hgo : ex l (ts j) + lowN l (ts j) (tw j) > y - 1
        · have hQ : ts j + tw j < T := by
            have := hp1 hgo
            omega
          have hpos := H2.out.2.1.pos j
          have HQ := Lib.hid (And.intro hQ hpos)
          obtain ⟨Q, hQd⟩ : ∃ Q, Q = ts j + tw j := ⟨_, rfl⟩
          rw [← hQd] at n0 hb2 hQ
          have HD := Lib.hid hQd
          clear hp1 hp2 hQd hpos
          generalize hxs : ex l (ts j) = xs at *
          generalize hxq : ex l Q = xq at *
          generalize lowN l (ts j) (tw j) = lo at *
          have HXS := Lib.hid (And.intro hxs hxq)
          clear hxs hxq
          go_wp2
          go_loop [8] (fun kk => ∃ m : Nat, 1 ≤ m ∧ m < 2 * L ∧ ts m + tw m = Q ∧ kk = .int .i64 m) (fun kk => (intOf kk).toNat)
          case atStart => exact ⟨j, hj1, hj2, HD.out.symm, rfl⟩
          case round =>
            obtain ⟨m, hm1, hm2, hm3, rfl⟩ := hrel
            have hm4 : 2 ≤ m := by
              rcases Nat.lt_or_ge 1 m with h | h
              · exact h
              · obtain rfl : m = 1 := by omega
                have := H2.out.2.1.root
                omega
            clear n0 n1
            by_cases hodd : m % 2 = 1
            · have to : ((m : Int) % 2 == 1) = true := by rw [beq_iff_eq]; omega
              have hup := H2.out.2.1.up m hm4 hm2 hodd
              have HU := Lib.hid (hup.trans hm3)
              clear hup hm3
              go_wp2
              go_round
              case rel => exact ⟨m / 2, by omega, by omega, HU.out, by go_num⟩
              case measure => simp [intOf]; omega
            · have to : ((m : Int) % 2 == 1) = false := by rw [beq_eq_false_iff_ne]; omega
              have hri := H2.out.2.1.right m hm4 hm2 (by omega)
              have HU := Lib.hid (hri.trans hm3)
              clear hri hm3
              go_wp2
              go_round
              case rel =>
                have h2 := HD.out
                exact ⟨m + 1, by omega, by omega, by rw [HU.out]; omega, by rw [HU.out]; exact hQ, by go_num, by rw [HU.out, HXS.out.2]; go_num⟩
              case measure =>
                have h1 := HU.out
                have h2 := HD.out
                have h3 := HQ.out
                simp [intOf]
                rw [h1]
                omega
        · have hQ := hp2 hgo
          have hgo2 : decide (ex l (ts j) + lowN l (ts j) (tw j) > y - 1) = false := decide_eq_false hgo
          clear hp1 hp2 hgo
          generalize hxs : ex l (ts j) = xs at *
          generalize lowN l (ts j) (tw j) = lo at *
          have HXS := Lib.hid hxs
          clear hxs
          go_wp2
          clear n0 n1 hb2 hb3
          go_loop [7, 8] (fun e kk => ∃ m : Nat, 1 ≤ m ∧ m < 2 * L ∧ i ≤ ts m ∧ ts m < T ∧ T ≤ ts m + tw m ∧ kk = .int .i64 m ∧ e = .int .i64 (ex l (ts m))) (fun _ kk => 2 * L - (intOf kk).toNat)
          case atStart => exact ⟨j, hj1, hj2, hj3, hj4, hQ, rfl, by rw [HXS.out]⟩
          case round =>
            obtain ⟨m, hm1, hm2, hm3, hm4, hm5, rfl, rfl⟩ := hrel
            clear hb1
            have hb1 := ex_abs l (ts m) hle
            by_cases hin : m < L
            · obtain ⟨k1, k2, k3, k4⟩ := H2.out.2.1.kids m hm1 hin
              obtain ⟨n0, n1⟩ := H2.out.2.2 (m * 2) (by omega) (by omega)
              rw [Nat.mul_comm 2 m] at k1 k2 k3 k4
              rw [k1] at n0 n1
              obtain ⟨hp1, hp2⟩ := HT.out.pass (a := ts m) (m := tw (m * 2)) hm3
              rw [HY.out] at hp1 hp2
              have hb2 := ex_abs l (ts m + tw (m * 2)) hle
              have hb3 := lowN_abs l (ts m) (tw (m * 2)) hle
              have HK := Lib.hid (And.intro k1 (And.intro k2 (And.intro k3 k4)))
              have hpos := H2.out.2.1.pos (m * 2)
              by_cases hgo : ex l (ts m) + lowN l (ts m) (tw (m * 2)) > y - 1
              · have hQ2 : ts m + tw (m * 2) < T := by
                  have := hp1 hgo
                  omega
                have hgo2 : decide (ex l (ts m) + lowN l (ts m) (tw (m * 2)) > y - 1) = true := decide_eq_true hgo
                clear hp1 hp2 hgo k1 k2 k3 k4
                generalize hxs : ex l (ts m) = xs at *
                generalize hxq : ex l (ts m + tw (m * 2)) = xq at *
                generalize lowN l (ts m) (tw (m * 2)) = lo at *
                have HXS := Lib.hid (And.intro hxs hxq)
                clear hxs hxq
                go_wp2_with (go_at_call 91; refine hLv.mono ?_; rintro e w' ⟨rfl, rfl⟩)
                go_round
                case rel => exact ⟨m * 2 + 1, by omega, by omega, by rw [HK.out.2.1]; omega, by rw [HK.out.2.1]; exact hQ2, by rw [HK.out.2.1, HK.out.2.2.1]; have := HK.out.2.2.2; omega, by go_num, by rw [HK.out.2.1, HXS.out.2]; go_num⟩
                case measure => simp [intOf]; omega
              · have hQ2 := hp2 hgo
                have hgo2 : decide (ex l (ts m) + lowN l (ts m) (tw (m * 2)) > y - 1) = false := decide_eq_false hgo
                clear hp1 hp2 hgo k1 k2 k3 k4
                generalize hxs : ex l (ts m) = xs at *
                generalize lowN l (ts m) (tw (m * 2)) = lo at *
                have HXS := Lib.hid hxs
                clear hxs
                go_wp2_with (go_at_call 91; refine hLv.mono ?_; rintro e w' ⟨rfl, rfl⟩)
                go_round
                case rel => exact ⟨m * 2, by omega, by omega, by rw [HK.out.1]; omega, by rw [HK.out.1]; exact hm4, by rw [HK.out.1]; exact hQ2, by go_num, by rw [HK.out.1, HXS.out]⟩
                case measure => simp [intOf]; omega
            · obtain ⟨c, rfl⟩ : ∃ c, m = L + c := ⟨m - L, by omega⟩
              have hl1 := H2.out.2.1.leaf c (by omega)
              rw [hl1] at hm3 hm4 hb1 ⊢
              clear hm5 hl1
              generalize hxs : ex l (512 * c) = xs at *
              have HXS := Lib.hid hxs
              clear hxs
              go_wp2_with (go_at_call 91; refine hLv.mono ?_; rintro e w' ⟨rfl, rfl⟩)
              go_loop [6, 7] (fun at' e => ∃ p : Nat, i ≤ p ∧ p ≤ T ∧ at' = .int .i64 p ∧ e = .int .i64 (ex l p)) (fun at' _ => T - (intOf at').toNat)
              case atStart => exact ⟨512 * c, by omega, by omega, by go_num, by rw [HXS.out]⟩
              case round =>
                obtain ⟨p, hp1, hp2, rfl, rfl⟩ := hrel
                have hxp := ex_abs l p hle
                have hiff := HT.out.iff (p := p) hp1 hp2
                rw [HY.out] at hiff
                by_cases hend : p = T
                · have hxT := hiff.2 hend
                  have te : decide (ex l p > y - 1) = false := decide_eq_false (by omega)
                  clear hiff
                  generalize ex l p = x at *
                  go_wp2
                  go_ret
                  exact ⟨ret_int (by omega), H2.out.1⟩
                · have hab := HT.out.above p hp1 (by omega)
                  rw [HY.out] at hab
                  have te : decide (ex l p > y - 1) = true := decide_eq_true (by omega)
                  have hS := parStep_any b l p w2 hP (by omega)
                  have hsc := stepZ_cases l p
                  have hs := ex_succ l (p := p) (by omega)
                  have HS := Lib.hid hs
                  clear hs hiff
                  generalize ex l p = x at *
                  generalize stepZ l p = z at *
                  go_wp2_with (go_at_call 92; refine hS.mono ?_; rintro e w' ⟨rfl, rfl⟩)
                  go_round
                  case rel => exact ⟨p + 1, by omega, by omega, by go_num, by rw [HS.out]⟩
                  case measure => simp [intOf]; omega

end Go.Proofs.Ytlciacpffoekjaa
