/- Layer 2's statements: RankNil. -/
import Derived.Test.YtlciacpffoekjaaLaw02b
namespace Go.Proofs.Ytlciacpffoekjaa
open Go.RowKit

set_option maxRecDepth 100000 in
theorem rankNew_nil (w : World) :
    Calls Try.prog 31 #[.pointer none] w fun e w' => ∃ b, e = .returned (.pointer (some ⟨b, 0, none⟩)) ∧ IdxAt w' b [] false 0 (fun k => w.heap.size ≤ k ∧ k < w'.heap.size) ∧ Keeps (fun _ => False) w w' := by
  go_enter Try.func31, Try.ntmps31
  go_wp2_with (first | (go_at_call 34; refine (new_any _).mono ?_; rintro e w' ⟨rfl, rfl⟩) | (go_at_call 83; refine (Join_nil _ _).mono ?_; rintro e w' ⟨rfl, rfl⟩))
  go_ret
  have hv := (vec_new w).keeps ((Keeps.refl (fun _ => False) _).alloc (.cells (idxCells w.heap.size false 0 (.slice none 0 0) 0 0) 103)) (fun h => h) (fun _ _ h => h)
  refine ⟨w.heap.size + 1, rfl, ⟨⟨w.heap.size, .slice none 0 0, .slice none 0 0, ?_, hv, rfl, ?_, ?_, ?_, ?_⟩, by simp, fun k hk => hk.2⟩, ((Keeps.refl _ w).alloc _).alloc _⟩
  · have := heap_alloc_new (w.alloc (.cells #[.slice none 0 0, .int .i64 0] 111)) (.cells (idxCells w.heap.size false 0 (.slice none 0 0) 0 0) 103)
    simpa [idxCells] using this
  · simp
  · simp; omega
  · intro k hk; simp [Value.ownBlock] at hk
  · intro k hk; simp [Value.ownBlock] at hk

set_option maxRecDepth 100000 in
set_option maxHeartbeats 2000000 in
theorem walkRankNil (bit i : Int) (w : World) (_ : (Lit.int .i64 bit).wf = true) (_ : (Lit.int .i64 i).wf = true) :
    Calls Try.prog 7 #[.int .i64 bit, .int .i64 i] w fun e w' => e = .returned (.bool true) ∧ Below w.heap.size w w' := by
  have hnot : ∀ (x : Bool) (w : World), (Op.unary .not (.bool x)).run Try.prog w = .ok (.bool (!x)) w := fun _ _ => rfl
  go_enter Try.func7, Try.ntmps7
  go_wp2_with (go_at_call 18; refine (awake02_any _).mono ?_; rintro e w1 ⟨rfl, hk1⟩)
  refine (rankNew_nil _).mono ?_
  rintro e w2 ⟨b, rfl, hI, hk2⟩
  have hR := Rank_in b [] false 0 _ 1 0 w2 hI (by omega) (.inr rfl) (by simp)
  rw [rk_zero] at hR
  have k2 : Keeps (fun _ => False) w w2 := hk1.trans hk2 (fun _ _ h => h)
  clear hI
  go_wp2_with fail
  refine hR.mono ?_
  rintro e w3 ⟨rfl, hI3, hk3⟩
  have hS := Select_out b [] true 1 _ 0 0 w3 hI3 (by omega) (by rw [show ([] : List Bool).length = 0 from rfl, rk_zero]; omega)
  have k3 : Keeps (fun _ => False) w w3 := k2.trans hk3 (fun x hx h => by have := h.1; have := hk1.size; omega)
  have hgr : ∀ x, x < w.heap.size → ¬ grow (fun k => w1.heap.size ≤ k ∧ k < w2.heap.size) w2 w3 x := fun x hx h => by
    have := hk1.size
    have := hk2.size
    rcases h with h | h <;> omega
  clear hR hI3 hk3 k2
  go_wp2_with fail
  refine hS.mono ?_
  rintro e w4 ⟨rfl, hI4, hk4⟩
  have k4 : Keeps (fun _ => False) w w4 := k3.trans hk4 hgr
  clear hS hk4 k3 hgr hk1 hk2
  go_wp2_with fail
  refine (Rank_nil bit i _).mono ?_
  rintro e w5 ⟨rfl, rfl⟩
  go_wp2_with fail
  refine (Select_nil bit i _).mono ?_
  rintro e w5 ⟨rfl, hk5⟩
  have k5 : Keeps (fun _ => False) w w5 := k4.trans hk5 (fun _ _ h => h)
  have hI5 := hI4.keeps hk5 (fun _ _ h => h)
  have hL := idxLen_any b [] true _ _ _ hI5
  have HK := Lib.hid k5
  clear k5 k4 hk5 hI4 hI5
  go_wp2_with fail
  refine hL.mono ?_
  rintro e w6 ⟨rfl, rfl⟩
  clear hL
  go_wp2
  go_ret
  exact ⟨rfl, HK.out.below (fun _ _ h => h)⟩

end Go.Proofs.Ytlciacpffoekjaa
