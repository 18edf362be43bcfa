/- The contract of package paren: Low. -/
import Derived.Test.YtlciacpffoekjaaPar3
namespace Go.Proofs.Ytlciacpffoekjaa
open Go.RowKit

theorem lowN_run (l : List Bool) (i p m : Nat) (h : i ≤ p) : ex l i + lowN l i (p + m - i) = min (ex l i + lowN l i (p - i)) (ex l p + lowN l p m) := by
  have := lowN_add l i (p - i) m
  rw [show p - i + m = p + m - i by omega, show i + (p - i) = p by omega] at this
  omega

theorem lowN_one (l : List Bool) (p : Nat) : ex l p + lowN l p 1 = min (ex l p) (ex l (p + 1)) := by
  simp only [lowN]; simp; omega

set_option maxRecDepth 100000 in
set_option maxHeartbeats 4000000 in
theorem Low_in {wh wr : World} {b : Nat} {l : List Bool} {done : Bool} {q : Nat} {F : Nat → Prop} (hF : ∀ x, F x → x < wh.heap.size) (h : ParAfter wh b l done q F wr) (i j : Nat) (hq : q < 100000000000) (hij : i ≤ j) (hj : j ≤ l.length) :
    Calls Try.prog 46 #[.pointer (some ⟨b, 0, none⟩), .int .i64 i, .int .i64 j] wr fun e w' => e = .returned (.tuple #[.int .i64 (ex l i + lowN l i (j - i)), .int .i64 0]) ∧ ParAfter wh b l true (q + 1) F w' := by
  have hmf : ∀ (fn : Fn) (first cap : Array Value) (w : World), (Instr.makeFunc fn first cap).run Try.prog w = .ok (.func fn first cap) w := fun _ _ _ _ => rfl
  have hL := parLen_any b l wr h.idx
  have hD := parDo' hF h
  have hle := h.idx.le
  have hE := fun w (hA : ParAfter wh b l true q F w) => parExcess_any hF hA i (by omega) (by omega)
  have hxi := ex_abs l i hle
  clear h hF
  go_enter Try.func46, Try.ntmps46
  go_wp2_with (first | (go_at_call 39; refine hL.mono ?_; rintro e w' ⟨rfl, rfl⟩) | (go_at_call 75; refine hD.mono ?_; rintro e w' ⟨rfl, hA⟩) | (go_at_call 88; refine (hE _ hA).mono ?_; rintro e w' ⟨rfl, hA1⟩))
  clear hL hD hE hxi hmf
  go_loopw [8, 9, 10] (fun e lw at' wr => ∃ p : Nat, i ≤ p ∧ p ≤ j ∧ at' = .int .i64 p ∧ e = .int .i64 (ex l p) ∧ lw = .int .i64 (ex l i + lowN l i (p - i)) ∧ ParAfter wh b l true (q + 1) F wr) (fun _ _ at' _ => j - (intOf at').toNat)
  case atStart => exact ⟨i, Nat.le_refl _, hij, rfl, rfl, by rw [Nat.sub_self]; simp [lowN], hA1⟩
  case round =>
    obtain ⟨p, hp1, hp2, rfl, rfl, rfl, hP⟩ := hrel
    clear hA hA1
    have hxp := ex_abs l p hle
    have hxi := ex_abs l i hle
    have hlo := lowN_abs l i (p - i) hle
    by_cases hlt : p < j
    · by_cases hbl : p % 512 = 0 ∧ p + 512 ≤ j
      · obtain ⟨hm, hle2⟩ := hbl
        have tm : ((p : Int) % 512 == 0) = true := by rw [beq_iff_eq]; omega
        obtain ⟨c, hc⟩ : ∃ c, c = p / 512 := ⟨_, rfl⟩
        have hpc : p = 512 * c := by omega
        have hI := hP.idx
        obtain ⟨L, ts, tw, g, hTL, hnL, hL1, hL2, c4, _, hLv, hnode⟩ := parRead hP.1
        obtain ⟨n0, n1⟩ := hnode (L + c) (by omega) (by omega)
        rw [hTL.leaf c (by omega), hTL.leafw c (by omega), ← hpc] at n0 n1
        have hx0 := ex_abs l (p + 512) hle
        have hlr := lowN_abs l p 512 hle
        have hrun := lowN_run l i p 512 hp1
        have hcL : c < L := by omega
        have H2 := Lib.hid hP
        have HC := Lib.hid hc
        clear hP hnode hTL hm hc hpc
        generalize hx1' : ex l (p + 512) = x1 at *
        generalize hx0' : ex l p = x0 at *
        generalize lowN l p 512 = lo at *
        generalize hlw : ex l i + lowN l i (p - i) = lw at *
        have hlwb : -400000000 ≤ lw ∧ lw ≤ 400000000 := by omega
        obtain ⟨lw2, hlw2, hlw3⟩ : ∃ lw2, lw2 = min lw (x0 + lo) ∧ (if x0 + lo < lw then x0 + lo else lw) = lw2 := ⟨_, rfl, by split <;> omega⟩
        have HX := Lib.hid (And.intro hx1' (And.intro hx0' (And.intro hlw2 hrun)))
        clear hx1' hx0' hlw hxi hlw2 hrun hlo
        go_wp2_with fail
        have hPd := hI.drew
        obtain ⟨m, hm'⟩ : ∃ m, m = L + c := ⟨_, rfl⟩
        have hlt2 : m < 2 * L := by omega
        have hm0 : (0 : Int) ≤ (m : Int) := by omega
        have hm1 : (m : Int) < 2 * (L : Int) := by omega
        have hsum : IntKind.i64.wrap ((L : Int) + (c : Int)) = (m : Int) := by rw [IntWalk.i64_in _ (by omega)]; omega
        have hcd : (p : Int).tdiv 512 = (c : Int) := by rw [Int.tdiv_eq_ediv_of_nonneg (by omega)]; have := HC.out; omega
        have hcw : IntKind.i64.wrap (c : Int) = (c : Int) := IntWalk.i64_in _ (by omega)
        rw [← hm'] at n0 n1
        clear hm'
        have al : ∀ (o : Obj) (a : Addr) (v : Value), wr.cell? a = some v → (wr.drew.alloc o).cell? a = some v := fun o a v h => by
          rw [World.cell?_of_block (w := wr) (((Keeps.refl (fun _ => False) wr).drew.alloc o).block a.block (World.block_lt_of_cell? wr a h) (fun h => h))]
          exact h
        have c4' := fun o => al o _ _ c4
        have n0' := fun o => al o _ _ n0
        have n1' := fun o => al o _ _ n1
        clear hI al
        have c4d : wr.drew.cell? ⟨b, 4, none⟩ = some (.slice (some ⟨g, 0, none⟩) (2 * L) (2 * L)) := c4
        have n0d : wr.drew.cell? ⟨g, m * 2, none⟩ = some (.int .i64 (x1 - x0)) := n0
        have n1d : wr.drew.cell? ⟨g, m * 2 + 1, none⟩ = some (.int .i64 (lo)) := n1
        go_region_held3 (fun w' => w'.cell? ⟨b, 4, none⟩ = some (.slice (some ⟨g, 0, none⟩) (2 * L) (2 * L)) ∧ w'.cell? ⟨g, m * 2, none⟩ = some (.int .i64 (x1 - x0)) ∧ w'.cell? ⟨g, m * 2 + 1, none⟩ = some (.int .i64 (lo)) ∧ PIdx w' b l) (first | exact ⟨c4d, n0d, n1d, hPd⟩ | exact ⟨c4' _, n0' _, n1' _, hPd.alloc _⟩) ((go_at_call 91; refine (hLv _ ?_).mono ?_; (first | exact hPd | exact hPd.alloc _ | assumption); rintro e w' ⟨rfl, rfl⟩))
        all_goals
          have hA6 : ParAfter wh b l true (q + 1) F ((wr.alloc (.cells #[.int .i64 (x1 - x0), .int .i64 lo] 121)).drew) := H2.out.keeps (((Keeps.refl (fun _ => False) wr).alloc _).drew) (fun _ _ h => h)
          have HA6 := Lib.hid hA6
          clear hA6 hPd c4 c4' c4d n0 n0' n0d n1 n1' n1d hsum hcd hcw hm0 hm1 hlt2 hLv
          go_wp2
          go_roundw
          case rel => exact ⟨p + 512, by omega, by omega, by go_num, by rw [HX.out.1]; go_num, by rw [HX.out.2.2.2, HX.out.2.2.1], HA6.out⟩
          case measure => simp [intOf]; omega
      · have hS := parStep_any b l p wr hP.idx (by omega)
        have hsc := stepZ_cases l p
        have hs := ex_succ l (p := p) (by omega)
        have hrun := lowN_run l i p 1 hp1
        rw [lowN_one, hs] at hrun
        have HP := Lib.hid hP
        clear hP
        generalize hlw : ex l i + lowN l i (p - i) = lw at *
        have hlwb : -400000000 ≤ lw ∧ lw ≤ 400000000 := by omega
        have hlx : lw ≤ ex l p := by
          have := lowN_sum l i (p - i)
          rw [show i + (p - i) = p by omega] at this
          omega
        clear hlw
        generalize stepZ l p = z at *
        have HS := Lib.hid hs
        clear hs
        generalize ex l p = x at *
        obtain ⟨lw2, hlw2, hlw3⟩ : ∃ lw2, ex l i + lowN l i (p + 1 - i) = lw2 ∧ (if x + z < lw then x + z else lw) = lw2 := ⟨_, rfl, by split <;> omega⟩
        have HR := Lib.hid (And.intro hlw2 hlx)
        clear hlw2 hrun hxi hlo hlx
        by_cases hm : p % 512 = 0
        · have tm : ((p : Int) % 512 == 0) = true := by rw [beq_iff_eq]; omega
          have hgt : j < p + 512 := by omega
          clear hbl hm
          go_wp2_with (go_at_call 92; refine hS.mono ?_; rintro e w' ⟨rfl, rfl⟩)
          go_roundw
          case rel => exact ⟨p + 1, by omega, by omega, by go_num, by rw [HS.out], by rw [HR.out.1], HP.out⟩
          case measure => simp [intOf]; omega
        · have tm : ((p : Int) % 512 == 0) = false := by rw [beq_eq_false_iff_ne]; omega
          clear hbl hm
          go_wp2_with (go_at_call 92; refine hS.mono ?_; rintro e w' ⟨rfl, rfl⟩)
          go_roundw
          case rel => exact ⟨p + 1, by omega, by omega, by go_num, by rw [HS.out], by rw [HR.out.1], HP.out⟩
          case measure => simp [intOf]; omega
    · obtain rfl : j = p := by omega
      generalize hlw : ex l i + lowN l i (j - i) = lw at *
      have HLW := Lib.hid hlw
      clear hlw
      have HP := Lib.hid hP
      clear hP
      go_wp2
      go_ret2
      exact ⟨by rw [HLW.out]; rfl, HP.out⟩

end Go.Proofs.Ytlciacpffoekjaa
