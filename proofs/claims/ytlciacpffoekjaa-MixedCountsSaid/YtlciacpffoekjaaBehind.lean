/- The contracts of package paren: behind. -/
import Derived.Test.YtlciacpffoekjaaAhead
import Derived.Deep.RegionHeld3
namespace Go.Proofs.Ytlciacpffoekjaa
open Go.RowKit

theorem PIdx.keeps {w w' : World} {b : Nat} {l : List Bool} (h : PIdx w b l) (k : Keeps (fun _ => False) w w') (hb : b < w.heap.size) : PIdx w' b l := by
  obtain ⟨bi, FI, dI, asd, hc0, hI⟩ := h
  refine ⟨bi, FI, dI, asd, ?_, hI.keeps k (fun _ _ h => h)⟩
  rw [World.cell?_of_block (w := w) (a := ⟨b, 0, none⟩) (k.block b hb (fun h => h))]
  exact hc0

theorem PIdx.lt {w : World} {b : Nat} {l : List Bool} (h : PIdx w b l) : b < w.heap.size := by
  obtain ⟨bi, FI, dI, asd, hc0, hI⟩ := h
  exact World.block_lt_of_cell? w ⟨b, 0, none⟩ hc0

theorem PIdx.drew {w : World} {b : Nat} {l : List Bool} (h : PIdx w b l) : PIdx w.drew b l := h.keeps ((Keeps.refl _ w).drew) h.lt
theorem PIdx.alloc {w : World} {b : Nat} {l : List Bool} (h : PIdx w b l) (o : Obj) : PIdx (w.alloc o) b l := h.keeps ((Keeps.refl _ w).alloc o) h.lt

theorem IsBehind.pos {l : List Bool} {i B : Nat} {want : Int} (h : IsBehind l i want B) : 1 ≤ i := by have := h.lt; omega

set_option maxRecDepth 100000 in
set_option maxHeartbeats 4000000 in
theorem behind_any {wh wr : World} {b : Nat} {l : List Bool} {q : Nat} {F : Nat → Prop} (hF : ∀ x, F x → x < wh.heap.size) (h : ParAfter wh b l true q F wr) (i B : Nat) (want : Int) (hq : q ≤ 1000000000000) (hB : IsBehind l i want B) :
    Calls Try.prog 89 #[.pointer (some ⟨b, 0, none⟩), .int .i64 i, .int .i64 want] wr fun e w' => e = .returned (.int .i64 B) ∧ ParAfter wh b l true (q + 1) F w' := by
  have hle := h.idx.le
  have hBi := hB.lt
  have hin := hB.le
  have hwt := ex_abs l B hle
  rw [hB.hit] at hwt
  have hE1 := parExcess_any hF h i (by omega) (by omega)
  have HB := Lib.hid hB
  clear hB h
  go_enter Try.func89, Try.ntmps89
  go_wp2_with fail
  refine hE1.mono ?_
  rintro e w1 ⟨rfl, h1⟩
  clear hE1
  have hxi := ex_abs l i hle
  go_wp2_with fail
  clear hxi
  go_loopw [7, 8] (fun at' e wq => ∃ k : Nat, B < k ∧ k ≤ i ∧ at' = .int .i64 k ∧ e = .int .i64 (ex l k) ∧ ParAfter wh b l true (q + 1) F wq) (fun at' _ _ => (intOf at').toNat)
  case atStart => exact ⟨i, hBi, Nat.le_refl _, rfl, rfl, h1⟩
  case round =>
    obtain ⟨k, hk1, hk2, rfl, rfl, hA⟩ := hrel
    clear h1
    obtain ⟨p, hkp⟩ : ∃ p, k = p + 1 := ⟨k - 1, by omega⟩
    have hkz : (k : Int) - 1 = (p : Int) := by omega
    have hxk := ex_abs l k hle
    have hxp := ex_abs l p hle
    have hP := hA.idx
    have hS := parStep_any b l p wr hP (by omega)
    have hsc := stepZ_cases l p
    have hs := ex_succ l (p := p) (by omega)
    rw [← hkp] at hs
    have hiff := HB.out.iff (p := p) (by omega) (by omega)
    have hs2 : ex l k - stepZ l p = ex l p := by omega
    have HS := Lib.hid hs2
    clear hkp
    have HA := Lib.hid hA
    clear hA
    by_cases hend : p = B
    · have te : (ex l k - stepZ l p == want) = true := by rw [hs2, beq_iff_eq]; exact hiff.2 hend
      clear hiff hs hs2 hxp
      have HE := Lib.hid hend
      clear hend
      generalize ex l k = x at *
      generalize stepZ l p = z at *
      go_wp2_with fail
      refine hS.mono ?_
      rintro e w' ⟨rfl, rfl⟩
      go_wp2
      go_ret
      exact ⟨ret_int (by rw [HE.out]), HA.out⟩
    · have te : (ex l k - stepZ l p == want) = false := by rw [hs2, beq_eq_false_iff_ne]; exact fun h => hend (hiff.1 h)
      have tz : ((p : Int) == 0) = false := by rw [beq_eq_false_iff_ne]; omega
      clear hiff hs hs2 hxp
      generalize ex l k = x at *
      generalize stepZ l p = z at *
      by_cases hm : (p : Int) % 512 = 0
      · have tm : ((p : Int) % 512 != 0) = false := by simp only [bne_eq_false_iff_eq]; exact hm
        obtain ⟨c, hcp⟩ : ∃ c, p = 512 * (c + 1) := ⟨p / 512 - 1, by omega⟩
        have HCP := Lib.hid hcp
        clear hcp
        go_wp2_with fail
        refine hS.mono ?_
        rintro e w' ⟨rfl, rfl⟩
        go_wp2_with fail
        clear hS hP
        go_loopw [7, 8, 9] (fun at' e bb wq => ∃ d : Nat, at' = .int .i64 (512 * (d + 1) : Nat) ∧ bb = .int .i64 d ∧ e = .int .i64 (ex l (512 * (d + 1))) ∧ B < 512 * (d + 1) ∧ 512 * (d + 1) ≤ 512 * (c + 1) ∧ ParAfter wh b l true (q + 1) F wq) (fun _ _ bb _ => (intOf bb).toNat)
        case atStart => exact ⟨c, by rw [← HCP.out], by have h := HCP.out; go_num, by rw [HS.out, HCP.out], by have h := HCP.out; omega, by omega, HA.out⟩
        case round =>
          obtain ⟨d, rfl, rfl, rfl, hd1, hd2, hA⟩ := hrel
          by_cases hd0 : d = 0
          · subst hd0
            go_wp2
            go_roundw
            case rel => exact ⟨512 * (0 + 1), by omega, by have h := HCP.out; omega, by go_num, rfl, hA⟩
            case measure => have h := HCP.out; simp [intOf]; omega
          · have hP := hA.idx
            have hx1 := ex_abs l (512 * (d + 1)) hle
            obtain ⟨L, ts, tw, g, hTL, hnL, hL1, hL2, c4, _, hLv, hnode⟩ := parRead hA.1
            have hdL : d < L := by have h := HCP.out; omega
            obtain ⟨n0, n1⟩ := hnode (L + d) (by omega) (by omega)
            rw [hTL.leaf d (by omega), hTL.leafw d (by omega)] at n0 n1
            have hp := HB.out.pass (a := 512 * d) (m := 512) (by omega)
            have hx0 := ex_abs l (512 * d) hle
            have hlo := lowN_abs l (512 * d) 512 hle
            rw [show 512 * d + 512 = 512 * (d + 1) by omega] at n0
            have H2 := Lib.hid hA
            have hkc : 512 * (c + 1) < k := by have h := HCP.out; omega
            clear hA hnode hTL
            generalize hx1' : ex l (512 * (d + 1)) = x1 at *
            generalize hx0' : ex l (512 * d) = x0 at *
            generalize lowN l (512 * d) 512 = lo at *
            have HX := Lib.hid (And.intro hx1' (And.intro hx0' hp))
            clear hx1' hx0'
            go_wp2_with fail
            have hPd := hP.drew
            obtain ⟨m, hm'⟩ : ∃ m, m = L + d := ⟨_, rfl⟩
            have hlt2 : m < 2 * L := by omega
            have hm0 : (0 : Int) ≤ (m : Int) := by omega
            have hm1 : (m : Int) < 2 * (L : Int) := by omega
            have hsum : IntKind.i64.wrap ((L : Int) + (d : Int)) = (m : Int) := by rw [IntWalk.i64_in _ (by omega)]; omega
            rw [← hm'] at n0 n1
            have HM := Lib.hid hm'
            clear hm'
            have al : ∀ (o : Obj) (a : Addr) (v : Value), wr.cell? a = some v → (wr.drew.alloc o).cell? a = some v := fun o a v h => by
              rw [World.cell?_of_block (w := wr) (((Keeps.refl (fun _ => False) wr).drew.alloc o).block a.block (World.block_lt_of_cell? wr a h) (fun h => h))]
              exact h
            have c4' := fun o => al o _ _ c4
            have n0' := fun o => al o _ _ n0
            have n1' := fun o => al o _ _ n1
            clear hP al
            have c4d : wr.drew.cell? ⟨b, 4, none⟩ = some (.slice (some ⟨g, 0, none⟩) (2 * L) (2 * L)) := c4
            have n0d : wr.drew.cell? ⟨g, m * 2, none⟩ = some (.int .i64 (x1 - x0)) := n0
            have n1d : wr.drew.cell? ⟨g, m * 2 + 1, none⟩ = some (.int .i64 (lo)) := n1
            go_region_held3 (fun w' => w'.cell? ⟨b, 4, none⟩ = some (.slice (some ⟨g, 0, none⟩) (2 * L) (2 * L)) ∧ w'.cell? ⟨g, m * 2, none⟩ = some (.int .i64 (x1 - x0)) ∧ w'.cell? ⟨g, m * 2 + 1, none⟩ = some (.int .i64 (lo)) ∧ PIdx w' b l) (first | exact ⟨c4d, n0d, n1d, hPd⟩ | exact ⟨c4' _, n0' _, n1' _, hPd.alloc _⟩) ((go_at_call 91; refine (hLv _ ?_).mono ?_; (first | exact hPd | exact hPd.alloc _ | assumption); rintro e w' ⟨rfl, rfl⟩))
            all_goals
              have hA6 : ParAfter wh b l true (q + 1) F ((wr.alloc (.cells #[.int .i64 (x1 - x0), .int .i64 lo] 121)).drew) := H2.out.keeps (((Keeps.refl (fun _ => False) wr).alloc _).drew) (fun _ _ h => h)
              have HA6 := Lib.hid hA6
              clear hA6 hPd c4 c4' c4d n0 n0' n0d n1 n1' n1d hsum hm0 hm1 hlt2 hLv hp
              by_cases hbr : x0 + lo ≤ want
              · have tb : decide (x1 - (x1 - x0) + lo ≤ want) = true := decide_eq_true (by omega)
                go_wp2
                go_roundw
                case rel => exact ⟨512 * (d + 1), hd1, by have h := HCP.out; omega, by go_num, by rw [HX.out.1], HA6.out⟩
                case measure => simp [intOf]; omega
              · have tb : decide (x1 - (x1 - x0) + lo ≤ want) = false := decide_eq_false (by omega)
                have hpass := HX.out.2.2 (by omega)
                go_wp2
                refine ⟨⟨.int .i64 (512 * ((d : Int) + 1) - 512), .int .i64 (x1 - (x1 - x0)), .int .i64 ((d : Int) - 1), ⟨d - 1, by go_num, by go_num, by rw [show d - 1 + 1 = d by omega, HX.out.2.1]; go_num, by omega, by omega, HA6.out⟩, rfl, rfl, rfl⟩, ?_⟩
                simp [intOf]; omega
      · have tm : ((p : Int) % 512 != 0) = true := by simp only [bne_iff_ne]; exact hm
        go_wp2_with fail
        refine hS.mono ?_
        rintro e w' ⟨rfl, rfl⟩
        go_wp2
        go_roundw
        case rel => exact ⟨p, by omega, by omega, rfl, by rw [HS.out], HA.out⟩
        case measure => simp [intOf]; omega

end Go.Proofs.Ytlciacpffoekjaa
