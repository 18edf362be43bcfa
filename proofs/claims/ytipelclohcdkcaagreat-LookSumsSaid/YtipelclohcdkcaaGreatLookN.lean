/- look: nil receivers. -/
import Derived.Test.YtipelclohcdkcaaGreatBase
namespace Go.Proofs.YtipelclohcdkcaaGreat
open Go.RowKit

theorem lookPlace_nil (i : Int) (w : World) :
    Calls Tryz.prog 125 #[.pointer none, .int .i64 i] w fun e w' => e = .returned (.int .i64 2) ∧ w = w' := by
  go_enter Tryz.func125, Tryz.ntmps125
  go_wp2
  go_ret
  exact ⟨rfl, rfl⟩

theorem lookNumber_nil (v : Value) (w : World) :
    Calls Tryz.prog 120 #[.pointer none, v] w fun e w' => e = .returned (.int .i64 2) ∧ w = w' := by
  go_enter Tryz.func120, Tryz.ntmps120
  go_wp2
  go_ret
  exact ⟨rfl, rfl⟩

theorem lookBy_nil (i : Int) (f : Value) (w : World) :
    Calls Tryz.prog 127 #[.pointer none, .int .i64 i, f] w fun e w' => e = .returned (.tuple #[.int .i64 0, .int .i64 2]) ∧ w = w' := by
  go_enter Tryz.func127, Tryz.ntmps127
  go_wp2_with fail
  refine (lookPlace_nil i w).mono ?_
  rintro e w' ⟨rfl, rfl⟩
  go_wp2
  go_ret2
  exact ⟨rfl, rfl⟩

theorem lookMateQ_nil (i : Int) (w : World) :
    Calls Tryz.prog 46 #[.pointer none, .int .i64 i] w fun e w' => e = .returned (.tuple #[.int .i64 0, .int .i64 2]) ∧ w = w' := by
  go_enter Tryz.func46, Tryz.ntmps46
  go_wp2_with fail
  refine (lookBy_nil i _ w).mono ?_
  rintro e w' ⟨rfl, rfl⟩
  go_wp2
  go_ret2
  exact ⟨rfl, rfl⟩

theorem lookFace_nil (i : Int) (w : World) :
    Calls Tryz.prog 42 #[.pointer none, .int .i64 i] w fun e w' => e = .returned (.tuple #[.slice none 0 0, .int .i64 2]) ∧ w = w' := by
  go_enter Tryz.func42, Tryz.ntmps42
  go_wp2_with fail
  refine (lookPlace_nil i w).mono ?_
  rintro e w' ⟨rfl, rfl⟩
  go_wp2
  go_ret2
  exact ⟨rfl, rfl⟩

theorem lookDegreeQ_nil (v : Int) (w : World) :
    Calls Tryz.prog 39 #[.pointer none, .int .i64 v] w fun e w' => e = .returned (.tuple #[.int .i64 0, .int .i64 2]) ∧ Keeps (fun _ => False) w w' := by
  have HK := Lib.hid ((Keeps.refl (fun _ => False) w).alloc (.cells #[.int .i64 v] 3))
  go_enter Tryz.func39, Tryz.ntmps39
  go_wp2_with fail
  refine (lookNumber_nil _ _).mono ?_
  rintro e w' ⟨rfl, rfl⟩
  go_wp2
  go_ret2
  exact ⟨rfl, HK.out⟩

/-- Two result cells, one behind the other, are written. -/
theorem res2 {W : World} {B : Nat} {t1 t2 : TypeId} {a b : Value} (h1 : W.heap[B]? = some (.cells #[a] t1 (0, 0))) (h2 : W.heap[B + 1]? = some (.cells #[b] t2 (0, 0))) (x y : Value) :
    ((W.setCell ⟨B, 0, none⟩ x).setCell ⟨B + 1, 0, none⟩ y).cell? ⟨B, 0, none⟩ = some x ∧ ((W.setCell ⟨B, 0, none⟩ x).setCell ⟨B + 1, 0, none⟩ y).cell? ⟨B + 1, 0, none⟩ = some y ∧ Keeps (fun k => k = B ∨ k = B + 1) W ((W.setCell ⟨B, 0, none⟩ x).setCell ⟨B + 1, 0, none⟩ y) ∧
    ((W.setCell ⟨B, 0, none⟩ x).setCell ⟨B + 1, 0, none⟩ y).heap[B]? = some (.cells #[x] t1 (0, 0)) := by
  have g1 : (W.setCell ⟨B, 0, none⟩ x).heap[B]? = some (.cells #[x] t1 (0, 0)) := heap_setCell_same h1 0 x
  have k1 := (Keeps.refl (fun k => k = B) W).setCell (p := ⟨B, 0, none⟩) (.inl rfl) x
  have g2 : (W.setCell ⟨B, 0, none⟩ x).heap[B + 1]? = some (.cells #[b] t2 (0, 0)) := k1.at h2 (by omega)
  have g3 : ((W.setCell ⟨B, 0, none⟩ x).setCell ⟨B + 1, 0, none⟩ y).heap[B + 1]? = some (.cells #[y] t2 (0, 0)) := heap_setCell_same g2 0 y
  have k2 := (Keeps.refl (fun k => k = B + 1) (W.setCell ⟨B, 0, none⟩ x)).setCell (p := ⟨B + 1, 0, none⟩) (.inl rfl) y
  have g4 := k2.at g1 (by omega)
  exact ⟨World.cell_of_heap g4 0, World.cell_of_heap g3 0, (k1.mono (fun _ _ h => .inl h)).trans (k2.mono (fun _ _ h => .inr h)) (fun _ _ h => h), g4⟩

set_option maxRecDepth 100000 in
set_option maxHeartbeats 1000000 in
theorem lookAdjacent_nil (u v : Int) (w : World) :
    Calls Tryz.prog 44 #[.pointer none, .int .i64 u, .int .i64 v] w fun e w' => e = .returned (.tuple #[.bool false, .int .i64 2]) ∧ Keeps (fun _ => False) w w' := by
  obtain ⟨W, hW⟩ : ∃ W, W = ((((w.alloc (.cells #[.pointer none] 46)).alloc (.cells #[.int .i64 v] 3)).alloc (.cells #[.bool false] 4)).alloc (.cells #[.int .i64 0] 26)).alloc (.cells #[.int .i64 u, .int .i64 v] 3) := ⟨_, rfl⟩
  have hk : Keeps (fun _ => False) w W := by rw [hW]; exact (((((Keeps.refl (fun _ => False) w).alloc _).alloc _).alloc _).alloc _).alloc _
  have h2 : W.heap[w.heap.size + 1 + 1]? = some (.cells #[.bool false] 4 (0, 0)) := by
    rw [hW]
    have h0 := heap_alloc_new ((w.alloc (.cells #[.pointer none] 46)).alloc (.cells #[.int .i64 v] 3)) (.cells #[.bool false] 4)
    rw [show ((w.alloc (.cells #[.pointer none] 46)).alloc (.cells #[.int .i64 v] 3)).heap.size = w.heap.size + 1 + 1 by simp] at h0
    exact (((Keeps.refl (fun _ => False) _).alloc _).alloc _).at h0 (fun h => h)
  have h3 : W.heap[w.heap.size + 1 + 1 + 1]? = some (.cells #[.int .i64 0] 26 (0, 0)) := by
    rw [hW]
    have h0 := heap_alloc_new (((w.alloc (.cells #[.pointer none] 46)).alloc (.cells #[.int .i64 v] 3)).alloc (.cells #[.bool false] 4)) (.cells #[.int .i64 0] 26)
    rw [show (((w.alloc (.cells #[.pointer none] 46)).alloc (.cells #[.int .i64 v] 3)).alloc (.cells #[.bool false] 4)).heap.size = w.heap.size + 1 + 1 + 1 by simp] at h0
    exact ((Keeps.refl (fun _ => False) _).alloc _).at h0 (fun h => h)
  obtain ⟨r1, r2, r3, _⟩ := res2 h2 h3 (.bool false) (.int .i64 2)
  have HK := Lib.hid (hk.trans r3 (fun x hx h => by omega))
  have HW := Lib.hid hW
  have hE := fun v W => lookNumber_nil v W
  clear hk r3 hW
  go_enter Tryz.func44, Tryz.ntmps44
  go_wp2_with fail
  rw [← HW.out]
  refine (hE _ _).mono ?_
  rintro e w' ⟨rfl, rfl⟩
  clear hE
  have c2 := World.cell_of_heap h2 0
  have c3 := World.cell_of_heap h3 0
  have f2 := World.free_of_heap h2 0
  have f3 := World.free_of_heap h3 0
  go_wp2
  refine bodyPost_ret (v := .tuple #[.bool false, .int .i64 2]) ?_ rfl ⟨rfl, HK.out⟩
  simp [results, Tryz.results44, go_sem, r1, r2]

theorem lookEdges_nil (w : World) :
    Calls Tryz.prog 43 #[.pointer none] w fun e w' => e = .returned (.int .i64 0) ∧ w = w' := by
  go_enter Tryz.func43, Tryz.ntmps43
  go_wp2
  go_ret
  exact ⟨rfl, rfl⟩

theorem lookVertices_nil (w : World) :
    Calls Tryz.prog 41 #[.pointer none] w fun e w' => e = .returned (.int .i64 0) ∧ w = w' := by
  go_enter Tryz.func41, Tryz.ntmps41
  go_wp2
  go_ret
  exact ⟨rfl, rfl⟩

theorem lookSize_nil (w : World) :
    Calls Tryz.prog 56 #[.pointer none] w fun e w' => e = .returned (.int .i64 0) ∧ w = w' := by
  go_enter Tryz.func56, Tryz.ntmps56
  go_wp2
  go_ret
  exact ⟨rfl, rfl⟩

theorem lookAsked_nil (w : World) :
    Calls Tryz.prog 55 #[.pointer none] w fun e w' => e = .returned (.int .i64 0) ∧ w = w' := by
  go_enter Tryz.func55, Tryz.ntmps55
  go_wp2
  go_ret
  exact ⟨rfl, rfl⟩

end Go.Proofs.YtipelclohcdkcaaGreat
