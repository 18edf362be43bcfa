/- Layer 2's statements: RankTurns. -/
import Derived.Test.YtlciacpffoekjaaIdx
namespace Go.Proofs.Ytlciacpffoekjaa
open Go.RowKit

/-- What is selected lies not ahead of the place that has so many ahead. -/
theorem sel_behind {l : List Bool} {bit : Int} (hb : bit = 0 ∨ bit = 1) {k n : Nat} (hk : k ≤ l.length) (h : IsSel l bit (rk l bit k) n) : k ≤ n := by
  obtain ⟨h1, h2, h3⟩ := h
  rcases Nat.lt_or_ge n k with hlt | h
  · have h4 := rk_succ l bit n hb h1
    rw [if_pos h2, h3] at h4
    have h5 := rk_le l bit hb (a := n + 1) (c := k) (by omega) hk
    omega
  · exact h

set_option maxRecDepth 100000 in
set_option maxHeartbeats 2000000 in
theorem walkRankTurns (a0 : Option Addr) (len0 cap0 : Nat) (z0 : List Int) (a1 : Int) (a2 : Int) (a3 : Int) (w : World) (w0 : RowIn .u8 w a0 len0 cap0 z0) (w1 : (Lit.int .u8 a1).wf = true) (w2 : (Lit.int .u16 a2).wf = true) (w3 : (Lit.int .u16 a3).wf = true) :
    Calls Try.prog 3 #[.slice a0 len0 cap0, .int .u8 a1, .int .u16 a2, .int .u16 a3] w fun e w' => e = .returned (.bool true) ∧ Below w.heap.size w w' := by
  have hnot : ∀ (x : Bool) (w : World), (Op.unary .not (.bool x)).run Try.prog w = .ok (.bool (!x)) w := fun _ _ => rfl
  obtain ⟨ps, hp, hps⟩ := w0.bytes
  obtain ⟨most, rfl, hm⟩ := u8_in w1
  obtain ⟨times, rfl, ht⟩ := u16_in w2
  obtain ⟨i, rfl, hi⟩ := u16_in w3
  clear w0 w1 w2 w3
  go_enter Try.func3, Try.ntmps3
  go_wp2_with (go_at_call 18; refine (awake02_any _).mono ?_; rintro e w1 ⟨rfl, hk1⟩)
  refine (made02_law _ ps most times w1 (hp.keeps hk1 (fun _ _ h => h)) hps hm ht).mono ?_
  rintro e w2 ⟨b, lv, F, zs, rfl, hzs, h01, hzl, hI, hF, hFw, hl, hlF, hk2⟩
  clear hzs hp hps
  have hlb := bitsOf_length zs
  obtain ⟨la, lc, rfl, hlc, hlc2⟩ := hl.form
  have hkk : i % (zs.length + 1) ≤ zs.length := by have := Nat.mod_lt i (show 0 < zs.length + 1 by omega); omega
  have ekk : ((i % (zs.length + 1) : Nat) : Int) = (i : Int) % ((zs.length : Int) + 1) := by simp
  have hR0 := Rank_in' hF hI 0 (i % (zs.length + 1)) (by omega) (.inl rfl) (by omega)
  rw [ekk] at hR0
  have hwk := hk1.trans hk2 (fun _ _ h => h)
  have hFw2 : ∀ x, F x → w.heap.size ≤ x := fun x hx => Nat.le_trans hk1.size (hFw x hx)
  have HK := Lib.hid (And.intro hwk ekk)
  clear hwk ekk hk1 hk2
  go_wp2_with fail
  refine hR0.mono ?_
  rintro e w3 ⟨rfl, hI3⟩
  have hR1 := Rank_in' hF hI3 1 (i % (zs.length + 1)) (by omega) (.inr rfl) (by omega)
  rw [HK.out.2] at hR1
  clear hR0 hI
  go_wp2_with fail
  refine hR1.mono ?_
  rintro e w4 ⟨rfl, hI4⟩
  clear hR1 hI3
  have hsum := rk_sum (bitsOf zs) (i % (zs.length + 1))
  have hb0 := rk_bounds (bitsOf zs) 0 (.inl rfl) (i % (zs.length + 1)) (by omega)
  have hb1 := rk_bounds (bitsOf zs) 1 (.inr rfl) (i % (zs.length + 1)) (by omega)
  rw [HK.out.2] at hsum
  have tsum : (rk (bitsOf zs) 0 (i % (zs.length + 1)) + rk (bitsOf zs) 1 (i % (zs.length + 1)) != (i : Int) % ((zs.length : Int) + 1)) = false := by rw [hsum]; simp
  have hold4 := hI4.1.old
  have hI5 := (hI4.1.keeps ((Keeps.refl (fun _ => False) w4).alloc (.cells #[.int .i64 (rk (bitsOf zs) 0 (i % (zs.length + 1))), .int .i64 (rk (bitsOf zs) 1 (i % (zs.length + 1)))] 3)) (fun _ _ h => h)).after
  have hl5 := (hl.keeps hI4.2 hlF).alloc (.cells #[.int .i64 (rk (bitsOf zs) 0 (i % (zs.length + 1))), .int .i64 (rk (bitsOf zs) 1 (i % (zs.length + 1)))] 3)
  have hblk := heap_alloc_new w4 (.cells #[.int .i64 (rk (bitsOf zs) 0 (i % (zs.length + 1))), .int .i64 (rk (bitsOf zs) 1 (i % (zs.length + 1)))] 3)
  have hwk5 : Keeps (fun _ => False) w w4 := HK.out.1.trans hI4.2 (fun x hx h => by have := hFw2 x h; omega)
  have hloop : ∀ j : Nat, j < 2 → (w4.alloc (.cells #[.int .i64 (rk (bitsOf zs) 0 (i % (zs.length + 1))), .int .i64 (rk (bitsOf zs) 1 (i % (zs.length + 1)))] 3)).cell? ⟨w4.heap.size, j, none⟩ = some (.int .i64 (rk (bitsOf zs) j (i % (zs.length + 1)))) := by
    intro j hj
    rw [World.cell_of_heap hblk]
    match j, hj with
    | 0, _ => rfl
    | 1, _ => rfl
  have hwk6 := hwk5.alloc (.cells #[.int .i64 (rk (bitsOf zs) 0 (i % (zs.length + 1))), .int .i64 (rk (bitsOf zs) 1 (i % (zs.length + 1)))] 3)
  have hs6 : (w4.alloc (.cells #[.int .i64 (rk (bitsOf zs) 0 (i % (zs.length + 1))), .int .i64 (rk (bitsOf zs) 1 (i % (zs.length + 1)))] 3)).heap.size = w4.heap.size + 1 := by simp
  have hg4 : ∀ x, x < w.heap.size → ¬ grow F w2 w4 x := by
    rintro x hx (h | h)
    · have := hFw2 x h; omega
    · have := HK.out.1.size; omega
  have hlg : ∀ k, (Value.slice la zs.length lc).ownBlock = some k → ¬ grow F w2 w4 k := by
    rintro k hk (h | h)
    · exact hlF k hk h
    · have := (hl.lt k hk).2; omega
  have HF := Lib.hid (And.intro hwk6 (And.intro hs6 (And.intro hold4 (And.intro hg4 hlg))))
  clear hsum hwk5 hblk hI4 hl hF hFw hFw2 HK hwk6 hs6 hold4 hg4 hlg
  go_wp2_with fail
  generalize w4.alloc _ = w6 at *
  clear tsum
  have hle10 : (bitsOf zs).length ≤ 10200 := by omega
  have hsl := hl5.sl
  have hkk2 : i % (zs.length + 1) ≤ (bitsOf zs).length := by omega
  have HL := Lib.hid (And.intro hlb (And.intro hl5 hsl))
  clear hlb hl5 hsl hb0 hb1
  generalize hkd : i % (zs.length + 1) = kk at *
  have HKD := Lib.hid hkd
  clear hkd
  go_loopw [68] (fun jv wr => ∃ j asked : Nat, j ≤ 2 ∧ jv = .int .i64 j ∧ asked ≤ 2 + 4 * j ∧ IdxAfter w6 b (bitsOf zs) true asked (grow F w2 w4) wr) (fun jv _ => 2 - (intOf jv).toNat)
  case atStart => exact ⟨0, 2, by omega, rfl, by omega, hI5⟩
  case round =>
    obtain ⟨j, asked, hj, rfl, hask, hI⟩ := hrel
    clear hI5
    by_cases hlt : j < 2
    · have hbit : (j : Int) = 0 ∨ (j : Int) = 1 := by omega
      have hold6 : ∀ x, grow F w2 w4 x → x < w6.heap.size := fun x hx => by have := HF.out.2.2.1 x hx; have := HF.out.2.1; omega
      have hcell : wr.cell? ⟨w4.heap.size, j, none⟩ = some (.int .i64 (rk (bitsOf zs) j kk)) := by
        rw [World.cell?_of_block (w := w6) (hI.2.block w4.heap.size (by have := HF.out.2.1; omega) (fun h => by have := HF.out.2.2.1 _ h; omega))]
        exact hloop j hlt
      have hnb := rk_bounds (bitsOf zs) j hbit kk hkk2
      have hab := rk_bounds (bitsOf zs) j hbit (bitsOf zs).length (Nat.le_refl _)
      have hlen := HL.out.1
      by_cases hsel : rk (bitsOf zs) j kk < rk (bitsOf zs) j (bitsOf zs).length
      · have hS := Select_in' hold6 hI j (rk (bitsOf zs) j kk) (by omega) hbit hnb.1 hsel
        clear hloop hI
        go_wp2_with fail
        refine hS.mono ?_
        rintro e w7 ⟨at_, rfl, hat, hI7⟩
        have hbe := sel_behind hbit hkk2 hat
        have hbe2 : (i : Int) % ((zs.length : Int) + 1) ≤ (at_ : Int) := by
          rw [show ((i : Int) % ((zs.length : Int) + 1)) = ((i % (zs.length + 1) : Nat) : Int) by simp, HKD.out]
          omega
        have hR := Rank_in' hold6 hI7 j (bitsOf zs).length (by omega) hbit (Nat.le_refl _)
        rw [hlen] at hR
        clear hS
        go_wp2_with fail
        refine hR.mono ?_
        rintro e w8 ⟨rfl, hI8⟩
        have hl8 := (HL.out.2.1.keeps hI8.2 HF.out.2.2.2.2).sl
        obtain ⟨a', c', hv', _, _, _, hc8⟩ := hl8
        simp only [Value.slice.injEq] at hv'
        obtain ⟨rfl, _, rfl⟩ := hv'
        have hatl : at_ < zs.length := by have := hat.1; omega
        obtain ⟨g, off, rfl, hcz⟩ := hc8 at_ zs[at_] (List.getElem?_eq_getElem hatl)
        have hbb := bit_back h01 (List.getElem?_eq_getElem hatl)
        rw [hat.2.1] at hbb
        rw [← hbb] at hcz
        have hR2 := Rank_in' hold6 hI8 j at_ (by omega) hbit (by omega)
        rw [hat.2.2] at hR2
        rw [hlen] at hsel hab
        have HI8 := Lib.hid hI8
        clear hR hI7 hI8 hc8 hat hbb
        generalize rk (bitsOf zs) j kk = n at *
        generalize rk (bitsOf zs) j zs.length = all at *
        go_wp2_with fail
        refine hR2.mono ?_
        rintro e w9 ⟨rfl, hI9⟩
        clear hR2
        go_wp2
        go_roundw
        case rel => exact ⟨j + 1, asked + 1 + 1 + 1, by omega, by go_num, by omega, hI9⟩
        case measure => simp [intOf]; omega
      · have hS := Select_out' hold6 hI j (rk (bitsOf zs) j kk) (by omega) (by omega)
        clear hloop hI
        go_wp2_with fail
        refine hS.mono ?_
        rintro e w7 ⟨rfl, hI7⟩
        have hR := Rank_in' hold6 hI7 j (bitsOf zs).length (by omega) hbit (Nat.le_refl _)
        rw [hlen] at hR
        clear hS
        go_wp2_with fail
        refine hR.mono ?_
        rintro e w8 ⟨rfl, hI8⟩
        rw [hlen] at hsel hab
        clear hR hI7
        generalize rk (bitsOf zs) j kk = n at *
        generalize rk (bitsOf zs) j zs.length = all at *
        go_wp2
        go_roundw
        case rel => exact ⟨j + 1, asked + 1 + 1, by omega, by go_num, by omega, hI8⟩
        case measure => simp [intOf]; omega
    · obtain rfl : j = 2 := by omega
      have hfin := HF.out.1.trans hI.2 (fun x hx h => absurd h (HF.out.2.2.2.1 x hx))
      have HFIN := Lib.hid hfin
      clear hfin hI hloop
      go_wp2
      go_ret
      exact ⟨rfl, HFIN.out.below (fun _ _ h => h)⟩

end Go.Proofs.Ytlciacpffoekjaa
