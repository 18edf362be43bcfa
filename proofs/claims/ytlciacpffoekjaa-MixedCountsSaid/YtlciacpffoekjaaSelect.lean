/- The contract of package rank's Select. -/
import Derived.Test.YtlciacpffoekjaaSearch
namespace Go.Proofs.Ytlciacpffoekjaa
open Go.RowKit

theorem IdxAt.drewN {w : World} {b : Nat} {l : List Bool} {done : Bool} {asked : Nat} {F : Nat → Prop} (h : IdxAt w b l done asked F) (n : Nat) : IdxAt (w.drewN n) b l done asked F :=
  h.keeps ((Keeps.refl (fun _ => False) w).drewN n) (fun _ _ h => h)

theorem sel1Enter (i : Int) (a1 a2 a3 : Addr) (W : World) : (callFunc 78 #[.int .i64 i, .pointer (some a1), .pointer (some a2), .pointer (some a3)]).run Try.prog W = .ok (.enter 78 #[.int .i64 i, .pointer (some a1), .pointer (some a2), .pointer (some a3)]) W := by
  go_simp

/-- The search over the directory. -/
theorem dirSearch_any (bx bb bk b : Nat) (l : List Bool) (asked : Nat) (F : Nat → Prop) (bit k : Int) (w : World) (h : IdxAt w b l true asked F) (hbit : bit = 0 ∨ bit = 1)
    (hx : w.cell? ⟨bx, 0, none⟩ = some (.pointer (some ⟨b, 0, none⟩))) (hb : w.cell? ⟨bb, 0, none⟩ = some (.int .i64 bit)) (hk : w.cell? ⟨bk, 0, none⟩ = some (.int .i64 k)) :
    Calls Try.prog 77 #[.int .i64 ((l.length + 511) / 512 + 1 : Nat), .func (.func 78) #[] #[.pointer (some ⟨bx, 0, none⟩), .pointer (some ⟨bb, 0, none⟩), .pointer (some ⟨bk, 0, none⟩)]] w fun e w' =>
      ∃ r, e = .returned (.int .i64 (r : Nat)) ∧ IsFirst (selP l bit k) ((l.length + 511) / 512 + 1) r ∧ ∃ n, w' = w.drewN n := by
  have hle := h.le
  refine search_any 78 ⟨bx, 0, none⟩ ⟨bb, 0, none⟩ ⟨bk, 0, none⟩ (selP l bit k) ((l.length + 511) / 512 + 1) (fun W => ∃ n, W = w.drewN n) w (by omega) ⟨0, rfl⟩ (fun i W => sel1Enter i _ _ _ W) ?_ (fun i j => selP_mono l bit k hbit i j)
  rintro i W hi ⟨n, rfl⟩
  refine (sel1_any bx bb bk b l asked F bit k i (w.drewN n) (h.drewN n) hx hb hk hi).mono ?_
  rintro e w' ⟨rfl, m, rfl⟩
  exact ⟨rfl, n + m, by rw [World.drewN_drewN]⟩

set_option maxRecDepth 100000 in
set_option maxHeartbeats 2000000 in
theorem Select_in (b : Nat) (l : List Bool) (done : Bool) (asked : Nat) (F : Nat → Prop) (bit k : Int) (w : World) (h : IdxAt w b l done asked F) (ha : asked ≤ 1000000000000) (hb : bit = 0 ∨ bit = 1) (hk0 : 0 ≤ k) (hk : k < rk l bit l.length) :
    Calls Try.prog 21 #[.pointer (some ⟨b, 0, none⟩), .int .i64 bit, .int .i64 k] w fun e w' => ∃ n : Nat, e = .returned (.tuple #[.int .i64 n, .int .i64 0]) ∧ IsSel l bit k n ∧ IdxAfter w b l true (asked + 1) F w' := by
  have hmf : ∀ (fn : Fn) (first cap : Array Value) (w : World), (Instr.makeFunc fn first cap).run Try.prog w = .ok (.func fn first cap) w := fun _ _ _ _ => rfl
  have hle := h.le
  have hold := h.old
  have hrk := rk_bounds l bit hb l.length (Nat.le_refl _)
  have hW := h.keeps ((((Keeps.refl (fun _ => False) w).alloc (.cells #[.pointer (some ⟨b, 0, none⟩)] 25)).alloc (.cells #[.int .i64 bit] 3)).alloc (.cells #[.int .i64 k] 3)) (fun _ _ h => h)
  have kW := (((Keeps.refl F w).alloc (.cells #[.pointer (some ⟨b, 0, none⟩)] 25)).alloc (.cells #[.int .i64 bit] 3)).alloc (.cells #[.int .i64 k] 3)
  have e0 : (((w.alloc (.cells #[.pointer (some ⟨b, 0, none⟩)] 25)).alloc (.cells #[.int .i64 bit] 3)).alloc (.cells #[.int .i64 k] 3)).heap.size = w.heap.size + 3 := by simp
  have x0 : (((w.alloc (.cells #[.pointer (some ⟨b, 0, none⟩)] 25)).alloc (.cells #[.int .i64 bit] 3)).alloc (.cells #[.int .i64 k] 3)).heap[w.heap.size]? = some (.cells #[.pointer (some ⟨b, 0, none⟩)] 25 (0, 0)) := by
    rw [Below.heap_alloc _ _ _ (by simp; omega), Below.heap_alloc _ _ _ (by simp)]; exact heap_alloc_new _ _
  have x1 : (((w.alloc (.cells #[.pointer (some ⟨b, 0, none⟩)] 25)).alloc (.cells #[.int .i64 bit] 3)).alloc (.cells #[.int .i64 k] 3)).heap[w.heap.size + 1]? = some (.cells #[.int .i64 bit] 3 (0, 0)) := by
    rw [Below.heap_alloc _ _ _ (by simp), show w.heap.size + 1 = (w.alloc (.cells #[.pointer (some ⟨b, 0, none⟩)] 25)).heap.size by simp]; exact heap_alloc_new _ _
  have x2 : (((w.alloc (.cells #[.pointer (some ⟨b, 0, none⟩)] 25)).alloc (.cells #[.int .i64 bit] 3)).alloc (.cells #[.int .i64 k] 3)).heap[w.heap.size + 2]? = some (.cells #[.int .i64 k] 3 (0, 0)) := by
    rw [show w.heap.size + 2 = ((w.alloc (.cells #[.pointer (some ⟨b, 0, none⟩)] 25)).alloc (.cells #[.int .i64 bit] 3)).heap.size by simp]; exact heap_alloc_new _ _
  have HR := Lib.hid (And.intro hk hb)
  have hkc : k < ofZ bit (cnt l) l.length := by have := hk; unfold rk at this; rwa [List.take_of_length_le (Nat.le_refl _)] at this
  have hcl := cnt_le l
  have hof := fun W => of_any bit (cnt l) l.length W (by omega)
  clear h hk
  generalize hofz : ofZ bit (cnt l) l.length = z at *
  clear hofz hrk
  have hbt : ((bit != 0) = false) ∨ ((bit != 0) = true ∧ (bit != 1) = false) := by rcases hb with rfl | rfl <;> simp
  clear hb
  rcases hbt with t0 | ⟨t0, t1⟩
  all_goals
    go_enter Try.func21, Try.ntmps21
    go_wp2_with fail
    generalize ((w.alloc (.cells #[.pointer (some ⟨b, 0, none⟩)] 25)).alloc (.cells #[.int .i64 bit] 3)).alloc (.cells #[.int .i64 k] 3) = W at *
    refine (idxAsk_any b l done asked F W hW ha).mono ?_
    rintro e w1 ⟨rfl, hI1, hK1, hS1⟩
    have nF : ∀ d, ¬ F (w.heap.size + d) := fun d h => by have := hold _ h; omega
    have y0 := hK1.at x0 (nF 0)
    have y1 := hK1.at x1 (nF 1)
    have y2 := hK1.at x2 (nF 2)
    clear x0 x1 x2
    have HK := Lib.hid (And.intro kW (And.intro e0 (And.intro hK1 hS1)))
    clear kW e0 hK1 hS1 hW
    generalize hB : w.heap.size = B at *
    have HB := Lib.hid hB
    clear hB
    have c0 : w1.cell? ⟨B, 0, none⟩ = some (.pointer (some ⟨b, 0, none⟩)) := World.cell_of_heap y0 0
    have c1 := World.cell_of_heap y1 0
    have c2 : w1.cell? ⟨B + 1 + 1, 0, none⟩ = some (.int .i64 k) := World.cell_of_heap y2 0
    simp only [List.getElem?_toArray, List.getElem?_cons_zero] at c1
    have HY := Lib.hid (And.intro y0 (And.intro y1 y2))
    clear y0 y1 y2
    go_wp2_with fail
    go_quiet ((first | (go_at_call 26; exact quiet_left (idxOnes_any b l done _ F _ (hI1.drewN _))) | (go_at_call 25; exact quiet_left (idxLen_any b l done _ F _ (hI1.drewN _))) | (go_at_call 73; exact quiet_left (hof _))))
    go_wp2_with fail
    have hI2 := hI1.drewN nq
    have c0' : (w1.drewN nq).cell? ⟨B, 0, none⟩ = some (.pointer (some ⟨b, 0, none⟩)) := c0
    have c1' := show (w1.drewN nq).cell? ⟨B + 1, 0, none⟩ = _ from c1
    have c2' : (w1.drewN nq).cell? ⟨B + 1 + 1, 0, none⟩ = some (.int .i64 k) := c2
    have HK2 := Lib.hid (And.intro HK.out (And.intro HY.out (show Keeps F w1 (w1.drewN nq) from (Keeps.refl F w1).drewN nq)))
    have hs2 : (w1.drewN nq).heap.size = w1.heap.size := rfl
    have HS2 := Lib.hid hs2
    clear hs2 HK HY hI1 c0 c1 c2 hof hkc
    generalize w1.drewN nq = w2 at *
    have hB2 : B < w2.heap.size := by have h1 := HS2.out; have h2 := HK2.out.1; omega
    go_region_held3 (fun w' => w'.cell? ⟨B, 0, none⟩ = some (.pointer (some ⟨b, 0, none⟩))) (go_keep) ((go_at_call 75; refine (idxDo_any b l done _ F _ (hI2.drewN 1)).mono ?_; rintro e w3 ⟨rfl, hI3, hK3⟩; have z0 : w3.cell? ⟨B, 0, none⟩ = some (.pointer (some ⟨b, 0, none⟩)) := (World.cell?_of_block (w := w2.drew) (hK3.block B hB2 (nF 0))).trans c0'))
    have z1 := (World.cell?_of_block (w := w2.drew) (hK3.block (B + 1) (by have h1 := HS2.out; have h2 := HK2.out.1; show B + 1 < w2.heap.size; omega) (nF 1))).trans c1'
    have z2 := (World.cell?_of_block (w := w2.drew) (hK3.block (B + 1 + 1) (by have h1 := HS2.out; have h2 := HK2.out.1; show B + 1 + 1 < w2.heap.size; omega) (nF 2))).trans c2'
    have hS := dirSearch_any B (B + 1) (B + 1 + 1) b l (asked + 1) _ bit k w3 hI3 HR.out.2 z0 z1 z2
    have HI3 := Lib.hid (And.intro hI3 hK3)
    obtain ⟨bv, v, ga, cap, d0, hv, d4, hnc, hcm, hal, hcell⟩ := hI3.read
    rw [← hal] at hS
    have HV := Lib.hid (And.intro hv (And.intro hcell hal))
    have hm1 : (ahead l).length ≤ 1000000 := by omega
    clear hI2 c0' c1' c2' hI3 hK3 hv hcell hal hB2
    generalize (ahead l).length = m at *
    go_wp2_with fail
    refine hS.mono ?_
    rintro e w4 ⟨r, rfl, hr, n4, rfl⟩
    rw [HV.out.2.2] at hr
    obtain ⟨hr1, hr2, hr3, hr4⟩ := sel_block hk0 HR.out.1 hr
    obtain ⟨q, rfl⟩ : ∃ q, r = q + 1 := ⟨r - 1, by omega⟩
    have hq : q ≤ 1000000 := by omega
    have hqm : q < m := by rw [HV.out.2.2]; omega
    simp only [Nat.add_sub_cancel] at hr3 hr4
    have hck := HV.out.2.1 q hqm
    have hcl1 := cnt_le (l.take (512 * q))
    have hcl2 : (l.take (512 * q)).length ≤ l.length := List.length_take_le' _ _
    have hof := fun W => of_any bit (cnt (l.take (512 * q))) ((q : Int) * 512) W (by omega)
    have hrq := HR.out.1
    have hrk0 := rk_bounds l bit HR.out.2 (512 * q) hr3
    have e5 : ((512 * q : Nat) : Int) = (q : Int) * 512 := by omega
    have hS0 : ofZ bit (cnt (l.take (512 * q))) ((q : Int) * 512) = rk l bit (512 * q) := by unfold rk; rw [e5]
    have hcl3 : cnt (l.take (512 * q)) ≤ 100000000 := by omega
    rw [hS0] at hof
    have HQ := Lib.hid (And.intro hr3 hr4)
    clear hr hr1 hr2 hr3 hr4 hS hcl1 hcl2 hrq e5 hS0 hrk0
    go_wp2_with fail
    have a0 : (w3.drewN n4).cell? ⟨B, 0, none⟩ = some (.pointer (some ⟨b, 0, none⟩)) := z0
    have a1 := show (w3.drewN n4).cell? ⟨B + 1, 0, none⟩ = _ from z1
    have a2 := show (w3.drewN n4).cell? ⟨B + 1 + 1, 0, none⟩ = _ from z2
    have a3 := show (w3.drewN n4).cell? ⟨b, 0, none⟩ = _ from d0
    have a4 := show (w3.drewN n4).cell? ⟨b, 4, none⟩ = _ from d4
    have a5 := show (w3.drewN n4).cell? ⟨ga, q, none⟩ = _ from hck
    have hI5 := HI3.out.1.drewN n4
    have hK5 := HI3.out.2.drewN n4
    have hv5 : VecAt (w3.drewN n4) bv v l := HV.out.1.keeps ((Keeps.refl (fun _ => False) w3).drewN n4) (fun h => h) (fun _ _ h => h)
    have hs5 : w3.heap.size = (w3.drewN n4).heap.size := rfl
    have H5 := Lib.hid (And.intro hI5 (And.intro hK5 (And.intro hv5 hs5)))
    clear hI5 hK5 hv5 hs5 HI3 HV
    clear z0 z1 z2 d0 d4 hck
    generalize w3.drewN n4 = w5 at *
    go_quiet ((go_at_call 73; exact quiet_left (hof _)))
    go_wp2_with fail
    have hfin : ∀ n : Nat, IdxAfter w b l true (asked + 1) F (w5.drewN n) := by
      intro n
      obtain ⟨hI5, hK5, hv5, hs5⟩ := H5.out
      obtain ⟨⟨g1, g2, g3, g4⟩, _, g5⟩ := HK2.out
      have g6 := HS2.out
      have g7 := HB.out
      have kk : Keeps F w (w5.drewN n) := ((((g1.trans g3 (fun _ _ h => h)).trans g5 (fun _ _ h => h)).drewN 1).trans hK5 (fun _ _ h => h)).drewN n
      have hz : w.heap.size ≤ w2.heap.size := by omega
      refine ⟨(hI5.drewN n).mono (fun x hx => ?_) (grow_old (fun x hx => by have := hold x hx; omega) kk.size), kk⟩
      rcases hx with hx | ⟨hx1, hx2⟩
      · exact .inl hx
      · exact .inr ⟨Nat.le_trans hz hx1, by show x < w5.heap.size; omega⟩
    have HF := Lib.hid hfin
    have hv5 := H5.out.2.2.1
    have hqq := HQ.out
    clear hfin H5 HK2 HS2 hof a4 a5
    go_loopw [9, 10] (fun i s wr => ∃ p : Nat, i = .int .i64 p ∧ s = .int .i64 (rk l bit p) ∧ p ≤ l.length ∧ rk l bit p ≤ k ∧ ∃ n, wr = w5.drewN n) (fun i _ _ => l.length - (intOf i).toNat)
    case atStart => exact ⟨512 * q, by go_num, rfl, hqq.1, hqq.2, _, rfl⟩
    case round =>
      obtain ⟨p, rfl, rfl, hp, hpk, nw, rfl⟩ := hrel
      have hb2 := HR.out.2
      have hlt : p < l.length := by
        rcases Nat.lt_or_ge p l.length with h | h
        · exact h
        · have := HR.out.1
          obtain rfl : p = l.length := by omega
          omega
      have hrs := rk_succ l bit p hb2 hlt
      have hrb := rk_bounds l bit hb2 p hp
      have hvw : VecAt (w5.drewN nw) bv v l := hv5.keeps ((Keeps.refl (fun _ => False) w5).drewN nw) (fun h => h) (fun _ _ h => h)
      have b0 : (w5.drewN nw).cell? ⟨B, 0, none⟩ = some (.pointer (some ⟨b, 0, none⟩)) := a0
      have b1 := show (w5.drewN nw).cell? ⟨B + 1, 0, none⟩ = _ from a1
      have b2 := show (w5.drewN nw).cell? ⟨B + 1 + 1, 0, none⟩ = _ from a2
      have b3 := show (w5.drewN nw).cell? ⟨b, 0, none⟩ = _ from a3
      have hA := fun n => at_in bv v l p ((w5.drewN nw).drewN n) (hvw.keeps ((Keeps.refl (fun _ => False) _).drewN n) (fun h => h) (fun _ _ h => h)) hlt (by omega)
      have hwn : ∀ n, (w5.drewN nw).drewN n = w5.drewN (nw + n) := fun n => World.drewN_drewN _ _ _
      have HS := Lib.hid (And.intro hrs hwn)
      have HP := Lib.hid (And.intro hpk hqq)
      clear hrs hwn hqq hvw hb2 a0 a1 a2 a3
      generalize hx : ((l.getD p false).toNat : Int) = x at *
      have HX := Lib.hid hx
      clear hx
      generalize hs : rk l bit p = s at *
      have HSS := Lib.hid hs
      clear hs
      generalize hw6 : w5.drewN nw = w6 at *
      have HW6 := Lib.hid hw6
      clear hw6
      by_cases hxb : x = bit
      · have tb : (x == bit) = true := by simp [hxb]
        have HXB := Lib.hid hxb
        clear hxb
        by_cases hsk : s = k
        · have ts : (s == k) = true := by simp [hsk]
          have HSK := Lib.hid hsk
          clear hsk
          go_wp2_with fail
          go_quiet ((go_at_call 79; exact quiet_left (hA _)))
          go_wp2
          go_ret2
          exact ⟨p, rfl, ⟨hlt, HX.out.trans HXB.out, HSS.out.trans HSK.out⟩, by rw [← HW6.out, World.drewN_drewN]; exact HF.out _⟩
        · have ts : (s == k) = false := by simp [hsk]
          have hsk' : s < k := by omega
          clear hsk
          go_wp2_with fail
          go_quiet ((go_at_call 79; exact quiet_left (hA _)))
          go_wp2
          go_roundw
          case rel => exact ⟨p + 1, by go_num, by rw [HS.out.1, if_pos HXB.out], by omega, by rw [HS.out.1, if_pos HXB.out]; omega, _, by rw [← HW6.out, World.drewN_drewN]⟩
          case measure => simp [intOf]; omega
      · have tb : (x == bit) = false := by simp [hxb]
        have HXB := Lib.hid hxb
        clear hxb
        go_wp2_with fail
        go_quiet ((go_at_call 79; exact quiet_left (hA _)))
        go_wp2
        go_roundw
        case rel => exact ⟨p + 1, by go_num, by rw [HS.out.1, if_neg HXB.out, Int.add_zero], by omega, by rw [HS.out.1, if_neg HXB.out]; omega, _, by rw [← HW6.out, World.drewN_drewN]⟩
        case measure => simp [intOf]; omega

end Go.Proofs.Ytlciacpffoekjaa
