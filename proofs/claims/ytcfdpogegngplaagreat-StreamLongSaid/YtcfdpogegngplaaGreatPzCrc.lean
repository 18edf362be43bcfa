/- crc: the checksum's contracts. -/
import Derived.Laws.BitsAllLaws
import Derived.Test.YtcfdpogegngplaaGreatPzOwnY
import Derived.Test.YtcfdpogegngplaaGreatPzVarP
namespace Go.Proofs.YtcfdpogegngplaaGreat
open Go.RowKit

set_option maxRecDepth 100000 in
set_option maxHeartbeats 2000000 in
theorem crcStep_any (r b : Nat) (w : World) (hr : r < 4294967296) (hb : b < 256) :
    Calls Tryz.prog 119 #[.int .u32 r, .int .u8 b] w fun e w' => e = .returned (.int .u32 (crcStep r b : Nat)) ∧ w = w' := by
  have hx : bits .xor .u32 (r : Int) (b : Int) = ((r ^^^ b : Nat) : Int) := u32_xor_nat r b hr (by omega)
  have h0 : r ^^^ b < 4294967296 := Nat.xor_lt_two_pow (n := 32) hr (by omega)
  have HS : Hid (crcStep r b = crcIt 8 (r ^^^ b)) := Lib.hid rfl
  generalize crcStep r b = R at *
  go_enter Tryz.func119, Tryz.ntmps119
  go_wp2_with fail
  go_loop [0, 9] (fun rv i => ∃ j : Nat, j ≤ 8 ∧ i = .int .i64 j ∧ rv = .int .u32 (crcIt j (r ^^^ b) : Nat)) (fun _ i => 8 - (intOf i).toNat)
  case atStart => exact ⟨0, by omega, rfl, rfl⟩
  case round =>
    obtain ⟨j, hj, rfl, rfl⟩ := hrel
    by_cases hlt : j < 8
    · have hq := crcIt_lt h0 j
      have hst : crcIt (j + 1) (r ^^^ b) = crcBit (crcIt j (r ^^^ b)) := rfl
      generalize crcIt j (r ^^^ b) = q at *
      have HST := Lib.hid hst
      clear hst
      have e1 : bits .and .u32 (q : Int) 1 = ((q % 2 : Nat) : Int) := by
        have := u32_and_nat q 1 hq (by decide)
        rw [nat_mask1] at this
        exact this
      by_cases h2 : q % 2 = 0
      · have hbt : crcBit q = q / 2 := by unfold crcBit; rw [if_pos h2]
        rw [h2] at e1
        have e2 : bits .and .u32 3988292384 0 = 0 := u32_and_nat 3988292384 0 (by decide) (by decide)
        have e3 : bits .xor .u32 ((q : Int) / 2) 0 = ((q / 2 : Nat) : Int) := by
          have := u32_xor_nat (q / 2) 0 (by omega) (by decide)
          rw [Nat.xor_zero] at this
          exact this
        have HB := Lib.hid hbt
        clear hbt
        go_wp2_with fail
        go_round
        case rel => exact ⟨j + 1, by omega, by go_num, by rw [HST.out, HB.out]; first | rfl | simp⟩
        case measure => simp [intOf]; omega
      · have hbt : crcBit q = (q / 2) ^^^ 3988292384 := by unfold crcBit; rw [if_neg h2]
        rw [show q % 2 = 1 by omega] at e1
        have e2 : bits .and .u32 3988292384 4294967295 = 3988292384 := u32_and_nat 3988292384 4294967295 (by decide) (by decide)
        have e3 : bits .xor .u32 ((q : Int) / 2) 3988292384 = (((q / 2) ^^^ 3988292384 : Nat) : Int) := u32_xor_nat (q / 2) 3988292384 (by omega) (by decide)
        have HB := Lib.hid hbt
        clear hbt
        go_wp2_with fail
        go_round
        case rel => exact ⟨j + 1, by omega, by go_num, by rw [HST.out, HB.out]⟩
        case measure => simp [intOf]; omega
    · obtain rfl : j = 8 := by omega
      go_wp2
      go_ret
      exact ⟨by rw [HS.out]; rfl, rfl⟩


/-- The sum's block. -/
def SumAt (W : World) (b r n : Nat) : Prop := W.heap[b]? = some (.cells #[.int .u32 r, .int .i64 n] 177 (0, 0))

set_option maxRecDepth 100000 in
set_option maxHeartbeats 2000000 in
theorem crcAdd_any (b : Nat) (pv : Value) (bs : List Nat) (w : World) (hS : SumAt w b 0 0) (hp : Sl .u8 w pv (nats bs)) (hbs : ∀ x ∈ bs, x < 256) (hl : bs.length ≤ 1000000000) (hpb : pv.ownBlock ≠ some b) :
    Calls Tryz.prog 71 #[.pointer (some ⟨b, 0, none⟩), pv] w fun e w' => e = .returned (.tuple #[]) ∧ SumAt w' b (crcV bs) bs.length ∧ Keeps (fun k => k = b) w w' := by
  obtain ⟨pa, pc, rfl, hpc, hpm, _, hc⟩ := hp
  rw [show (nats bs).length = bs.length by simp [nats]] at hpc ⊢
  have c0 : w.cell? ⟨b, 0, none⟩ = some (.int .u32 0) := World.cell_of_heap hS 0
  have c1 : w.cell? ⟨b, 1, none⟩ = some (.int .i64 0) := World.cell_of_heap hS 1
  have hf := World.free_of_heap hS
  have HS := Lib.hid (And.intro hS hbs)
  clear hS hbs
  generalize hn : bs.length = n at *
  have HN := Lib.hid hn
  clear hn
  have hx0 : bits .xor .u32 IntKind.u32.max 0 = 4294967295 := u32_xor_nat 4294967295 0 (by decide) (by decide)
  go_enter Tryz.func71, Tryz.ntmps71
  go_wp2_with fail
  go_loop [4, 16] (fun rv i => ∃ j : Nat, j ≤ n ∧ i = .int .i64 j ∧ rv = .int .u32 (crcR (bs.take j) : Nat)) (fun _ i => n - (intOf i).toNat)
  case atStart => exact ⟨0, by omega, rfl, by first | rfl | (simp only [hx0]; rfl)⟩
  case round =>
    obtain ⟨j, hj, rfl, rfl⟩ := hrel
    have hq : crcR (bs.take j) < 4294967296 := crcFold_lt _ _ (fun x hx => HS.out.2 x (List.mem_of_mem_take hx)) (by decide)
    by_cases hlt : j < n
    · obtain ⟨x, hx⟩ : ∃ x, bs[j]? = some x := ⟨_, List.getElem?_eq_getElem (by rw [HN.out]; exact hlt)⟩
      have hx256 := HS.out.2 x (List.mem_of_getElem? hx)
      have hst : crcR (bs.take (j + 1)) = crcStep (crcR (bs.take j)) x := by
        unfold crcR
        rw [takeY hx, List.foldl_append]; rfl
      obtain ⟨g, off, rfl, hcell⟩ := hc j _ (by simp [nats, hx] : (nats bs)[j]? = some (x : Int))
      have HST := Lib.hid hst
      have hSt := fun W => crcStep_any (crcR (bs.take j)) x W hq hx256
      clear hst hc hx
      generalize crcR (bs.take j) = q at *
      go_wp2_with (go_at_call 119; refine (hSt _).mono ?_; rintro e w' ⟨rfl, rfl⟩)
      go_round
      case rel => exact ⟨j + 1, by omega, by go_num, by rw [HST.out]⟩
      case measure => simp [intOf]; omega
    · obtain rfl : j = n := by omega
      have hV : crcV bs = crcR (bs.take j) ^^^ 4294967295 := by unfold crcV; rw [List.take_of_length_le (by rw [HN.out]; exact Nat.le_refl _)]
      have hx1 : bits .xor .u32 IntKind.u32.max ((crcR (bs.take j) : Nat) : Int) = ((crcV bs : Nat) : Int) := by
        have := u32_xor_nat 4294967295 (crcR (bs.take j)) (by decide) hq
        rw [hV, Nat.xor_comm]
        exact this
      have HV := Lib.hid hV
      clear hc hV
      generalize crcR (bs.take j) = q at *
      obtain ⟨cv, hcv⟩ : ∃ cv, cv = crcV bs := ⟨_, rfl⟩
      rw [← hcv] at hx1
      have HCV := Lib.hid hcv
      clear hcv
      have r1 := heap_setCell_same (heap_setCell_same HS.out.1 0 (.int .u32 (cv : Int))) 1 (.int .i64 (j : Int))
      have c1' : (w.setCell ⟨b, 0, none⟩ (.int .u32 (cv : Int))).cell? ⟨b, 1, none⟩ = some (.int .i64 0) := World.cell_of_heap (heap_setCell_same HS.out.1 0 (.int .u32 (cv : Int))) 1
      have hf' := World.free_of_heap (heap_setCell_same HS.out.1 0 (.int .u32 (cv : Int)))
      have HF : Hid (SumAt _ b cv j ∧ Keeps (fun k => k = b) w _) := Lib.hid ⟨r1, ((Keeps.refl (fun k => k = b) w).setCell (p := ⟨b, 0, none⟩) (.inl rfl) (.int .u32 (cv : Int))).setCell (p := ⟨b, 1, none⟩) (.inl rfl) (.int .i64 (j : Int))⟩
      clear r1
      go_wp2_with fail
      go_end0
      rw [← HCV.out]
      exact ⟨rfl, HF.out⟩

set_option maxRecDepth 100000 in
set_option maxHeartbeats 2000000 in
theorem crcOf_any (pv : Value) (bs : List Nat) (w : World) (hp : Sl .u8 w pv (nats bs)) (hpo : ∀ k, pv.ownBlock = some k → k < w.heap.size) (hbs : ∀ x ∈ bs, x < 256) (hl : bs.length ≤ 1000000000) :
    Calls Tryz.prog 26 #[pv] w fun e w' => e = .returned (.int .u32 (crcV bs : Nat)) ∧ Keeps (fun _ => False) w w' := by
  have ka := (Keeps.refl (fun _ => False) w).alloc (.cells #[.int .u32 0, .int .i64 0] 177)
  have hb0 := heap_alloc_new w (.cells #[.int .u32 0, .int .i64 0] 177)
  have hA := crcAdd_any w.heap.size pv bs _ hb0 (hp.keeps ka (fun _ _ h => h)) hbs hl (fun e => by have := hpo _ e; omega)
  have HK := Lib.hid ka
  clear hp hbs ka hb0
  go_enter Tryz.func26, Tryz.ntmps26
  go_wp2_with (first | (go_at_call 71; refine hA.mono ?_; rintro e w1 ⟨rfl, hS, hk⟩; have c0 : w1.cell? ⟨w.heap.size, 0, none⟩ = some (.int .u32 (crcV bs : Nat)) := World.cell_of_heap hS 0; have HF := Lib.hid (HK.out.trans hk (fun x hx e => by omega)); clear hA hS hk) | go_in)
  go_ret
  exact ⟨rfl, HF.out⟩

end Go.Proofs.YtcfdpogegngplaaGreat
