/- law07.awake, RotsNil. -/
import Derived.Shelf.Bytes.SlCountOne
import Derived.Lib.SlBytesConst
import Derived.Test.YtblkkcpeodoclaaGreatDoorPtRots2
import Derived.Test.YtblkkcpeodoclaaGreatDoorPtLays07
import Derived.Test.YtblkkcpeodoclaaGreatDoorPtRots10
import Derived.Test.YtblkkcpeodoclaaGreatDoorPtCountP
import Derived.Test.YtblkkcpeodoclaaGreatDoorPtClone8
namespace Go.Proofs.YtblkkcpeodoclaaGreatDoor
open Go.RowKit

def bytes0 : List Nat := [49, 32, 48, 32, 48, 10, 48, 10, 49, 10]

theorem good0 : GoodK (u8s bytes0) [0, 1] 0 0 3 := by
  have hP : IsP ([0, 1] : List Nat).length (sg [0, 1]) := by
    refine ⟨fun d hd => ?_, fun d e hd he h => ?_⟩
    · match d, hd with
      | 0, _ => decide
      | 1, _ => decide
    · match d, hd, e, he with
      | 0, _, 0, _ => rfl
      | 1, _, 1, _ => rfl
      | 0, _, 1, _ => exact absurd h (by decide)
      | 1, _, 0, _ => exact absurd h (by decide)
  have i0 : Lib.itoa 0 = [48] := by simp [Lib.itoa, Lib.decDigits]
  have i1 : Lib.itoa 1 = [49] := by simp [Lib.itoa, Lib.decDigits]
  have e : u8s bytes0 = linesB (([0, 1] : List Nat).length / 2) 0 0 [[0], [1]] := by
    show u8s bytes0 = rowB [1, 0, 0] ++ (rowB [0] ++ (rowB [1] ++ []))
    unfold rowB
    simp only [List.map_cons, List.map_nil, i0, i1]
    rfl
  rw [e]
  refine good_lines (s := [0, 1]) (ls := [[0], [1]]) hP (by decide) (by decide) (by decide) (.inr ⟨0, rfl, by decide⟩) ?_ ?_ ?_ ?_
  · intro l hl
    simp only [List.mem_cons, List.not_mem_nil, or_false] at hl
    rcases hl with rfl | rfl <;> simp
  · have hL : linksL [[0], [1]] = [(0, 0), (1, 1)] := rfl
    unfold TurnOk
    rw [hL]
    decide
  · have hL : linksL [[0], [1]] = [(0, 0), (1, 1)] := rfl
    rw [hL]
    decide
  · rw [← e]; decide

set_option maxRecDepth 100000 in
set_option maxHeartbeats 2000000 in
theorem awake07_any (B : Nat) (w : World) (hE : EnvR B w) : Calls Tryz.prog 7 #[] w fun e w' => e = .returned (.bool true) ∧ Keeps (fun _ => False) w w' := by
  have hcv := Lib.run_convert_bytes_const (P := Tryz.prog) w 22 5 (ys bytes0).toArray 10 10 Tryz.underlying22 Tryz.underlying5
  obtain ⟨w1, hw1⟩ : ∃ w1, w1 = w.alloc (.cells (ys bytes0).toArray 5 ((ys bytes0).toArray.size, (ys bytes0).toArray.size + 1)) := ⟨_, rfl⟩
  have k1 : Keeps (fun _ => False) w w1 := by rw [hw1]; exact (Keeps.refl (fun _ => False) w).alloc _
  have hb : w1.heap[w.heap.size]? = some (.cells (ys bytes0).toArray 5 (10, 11)) := by rw [hw1]; exact heap_alloc_new w _
  have hsl := sl_const hb (by decide)
  have hP := rotsParse_any _ bytes0 B w1 (hE.keeps k1 (fun _ h => h.elim)) hsl (by decide)
  rw [← hw1] at hcv
  have HP := Lib.hid (And.intro hP k1)
  clear hP k1 hb hsl hw1 hE
  have hcv2 : Sem.run Tryz.prog (convert 22 22 (.slice (some ⟨w.heap.size, 0, none⟩) 10 10)) (w.alloc (.cells #[.int .u8 49, .int .u8 32, .int .u8 48, .int .u8 32, .int .u8 48, .int .u8 10, .int .u8 48, .int .u8 10, .int .u8 49, .int .u8 10] 5)) = .ok (.slice (some ⟨w.heap.size, 0, none⟩) 10 10) w1 := hcv
  clear hcv
  go_enter Tryz.func7, Tryz.ntmps7
  go_wp2_with fail
  refine HP.out.1.mono ?_
  rintro e w2 ⟨hk2, hc⟩
  obtain ⟨b, s, rt, ln, k, hG, rfl, hma, hbb⟩ : ∃ (b : Nat) (s : List Nat) (rt : Int) (ln k : Nat), GoodK (u8s bytes0) s rt ln k ∧ e = .returned (.tuple #[.pointer (some ⟨b, 0, none⟩), .int .i64 k, .int .i64 0]) ∧ MapAt w2 b s rt ln (fun x => w1.heap.size ≤ x ∧ x < w2.heap.size ∧ x ≠ b) ∧ w1.heap.size ≤ b := by
    rcases hc with ⟨_, _, _, _, _, h⟩ | h
    · exact absurd good0 (h _ _ _ _)
    · exact h
  obtain ⟨-, -, rfl, rfl⟩ := hG.det good0
  have hcnt := hG.count
  have hl2 : ldr (sg s) s.length = 2 := by omega
  have hV := mapVertices_any hma
  rw [hl2] at hV
  have HV := Lib.hid (And.intro hV (And.intro hk2 hbb))
  clear hV hk2 hbb hma hG hcnt hl2 hc
  go_wp2_with fail
  refine HV.out.1.mono ?_
  rintro e w3 ⟨rfl, hq⟩
  have HQ := Lib.hid hq.2
  clear hq
  go_wp2
  go_ret
  exact ⟨rfl, (HP.out.2.trans HV.out.2.1 (fun _ _ h => h)).trans HQ.out (fun x hx e => by have := HP.out.2.size; have := HV.out.2.2; omega)⟩

end Go.Proofs.YtblkkcpeodoclaaGreatDoor
