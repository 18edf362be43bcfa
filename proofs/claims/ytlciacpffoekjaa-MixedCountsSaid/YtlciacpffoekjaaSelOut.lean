/- The contract of package rank's Select, where it refuses. -/
import Derived.Test.YtlciacpffoekjaaSelect
namespace Go.Proofs.Ytlciacpffoekjaa
open Go.RowKit

theorem Select_nil (bit i : Int) (w : World) :
    Calls Try.prog 21 #[.pointer none, .int .i64 bit, .int .i64 i] w fun e w' => e = .returned (.tuple #[.int .i64 0, .int .i64 2]) ∧ Keeps (fun _ => False) w w' := by
  go_enter Try.func21, Try.ntmps21
  go_wp2
  go_ret2
  exact ⟨rfl, (((Keeps.refl _ w).alloc _).alloc _).alloc _⟩

set_option maxRecDepth 100000 in
set_option maxHeartbeats 2000000 in
theorem Select_out (b : Nat) (l : List Bool) (done : Bool) (asked : Nat) (F : Nat → Prop) (bit k : Int) (w : World) (h : IdxAt w b l done asked F) (ha : asked ≤ 1000000000000) (hb : ¬ ((bit = 0 ∨ bit = 1) ∧ 0 ≤ k ∧ k < rk l bit l.length)) :
    Calls Try.prog 21 #[.pointer (some ⟨b, 0, none⟩), .int .i64 bit, .int .i64 k] w fun e w' => e = .returned (.tuple #[.int .i64 0, .int .i64 1]) ∧ IdxAfter w b l done (asked + 1) F w' := by
  have hle := h.le
  have hold := h.old
  have hcl := cnt_le l
  have hW := h.keeps ((((Keeps.refl (fun _ => False) w).alloc (.cells #[.pointer (some ⟨b, 0, none⟩)] 25)).alloc (.cells #[.int .i64 bit] 3)).alloc (.cells #[.int .i64 k] 3)) (fun _ _ h => h)
  have kW := (((Keeps.refl F w).alloc (.cells #[.pointer (some ⟨b, 0, none⟩)] 25)).alloc (.cells #[.int .i64 bit] 3)).alloc (.cells #[.int .i64 k] 3)
  have e0 : (((w.alloc (.cells #[.pointer (some ⟨b, 0, none⟩)] 25)).alloc (.cells #[.int .i64 bit] 3)).alloc (.cells #[.int .i64 k] 3)).heap.size = w.heap.size + 3 := by simp
  have x0 : (((w.alloc (.cells #[.pointer (some ⟨b, 0, none⟩)] 25)).alloc (.cells #[.int .i64 bit] 3)).alloc (.cells #[.int .i64 k] 3)).heap[w.heap.size]? = some (.cells #[.pointer (some ⟨b, 0, none⟩)] 25 (0, 0)) := by
    rw [Below.heap_alloc _ _ _ (by simp; omega), Below.heap_alloc _ _ _ (by simp)]; exact heap_alloc_new _ _
  have x1 : (((w.alloc (.cells #[.pointer (some ⟨b, 0, none⟩)] 25)).alloc (.cells #[.int .i64 bit] 3)).alloc (.cells #[.int .i64 k] 3)).heap[w.heap.size + 1]? = some (.cells #[.int .i64 bit] 3 (0, 0)) := by
    rw [Below.heap_alloc _ _ _ (by simp), show w.heap.size + 1 = (w.alloc (.cells #[.pointer (some ⟨b, 0, none⟩)] 25)).heap.size by simp]; exact heap_alloc_new _ _
  have x2 : (((w.alloc (.cells #[.pointer (some ⟨b, 0, none⟩)] 25)).alloc (.cells #[.int .i64 bit] 3)).alloc (.cells #[.int .i64 k] 3)).heap[w.heap.size + 2]? = some (.cells #[.int .i64 k] 3 (0, 0)) := by
    rw [show w.heap.size + 2 = ((w.alloc (.cells #[.pointer (some ⟨b, 0, none⟩)] 25)).alloc (.cells #[.int .i64 bit] 3)).heap.size by simp]; exact heap_alloc_new _ _
  have hof := fun W => of_any bit (cnt l) l.length W (by omega)
  have hcase : ((bit != 0) = true ∧ (bit != 1) = true) ∨ (((bit != 0) = false ∨ ((bit != 0) = true ∧ (bit != 1) = false)) ∧ (k < 0 ∨ (0 ≤ k ∧ ofZ bit (cnt l) l.length ≤ k))) := by
    by_cases h0 : bit = 0
    · subst h0
      refine .inr ⟨.inl rfl, ?_⟩
      unfold rk at hb
      rw [List.take_of_length_le (Nat.le_refl _)] at hb
      omega
    · by_cases h1 : bit = 1
      · subst h1
        refine .inr ⟨.inr ⟨rfl, rfl⟩, ?_⟩
        unfold rk at hb
        rw [List.take_of_length_le (Nat.le_refl _)] at hb
        omega
      · exact .inl ⟨by simp [h0], by simp [h1]⟩
  clear h hb
  generalize hofz : ofZ bit (cnt l) l.length = z at *
  clear hofz
  have hfin : ∀ W w1 : World, ∀ n : Nat, Keeps F w W → W.heap.size = w.heap.size + 3 → Keeps F W w1 → w1.heap.size = W.heap.size → IdxAt w1 b l done (asked + 1) F → IdxAfter w b l done (asked + 1) F (w1.drewN n) := fun W w1 n h1 h2 h3 h4 h5 =>
    ⟨(h5.drewN n).mono (fun x hx => .inl hx) (grow_old hold (by show w.heap.size ≤ w1.heap.size; omega)), (h1.trans h3 (fun _ _ h => h)).drewN n⟩
  have HF := Lib.hid hfin
  clear hfin
  rcases hcase with ⟨t0, t1⟩ | ⟨t0 | ⟨t0, t1⟩, hk | ⟨hk1, hk2⟩⟩
  all_goals
    go_enter Try.func21, Try.ntmps21
    go_wp2_with fail
    generalize ((w.alloc (.cells #[.pointer (some ⟨b, 0, none⟩)] 25)).alloc (.cells #[.int .i64 bit] 3)).alloc (.cells #[.int .i64 k] 3) = W at *
    refine (idxAsk_any b l done asked F W hW ha).mono ?_
    rintro e w1 ⟨rfl, hI1, hK1, hS1⟩
    have nF : ∀ d, ¬ F (w.heap.size + d) := fun d h => by have := hold _ h; omega
    have y0 := hK1.at x0 (nF 0)
    have y1 := hK1.at x1 (nF 1)
    have y2 := hK1.at x2 (nF 2)
    clear x0 x1 x2
    have HFF := Lib.hid (fun n => HF.out W w1 n kW e0 hK1 hS1 hI1)
    clear HF kW e0 hK1 hS1 hW
    generalize hB : w.heap.size = B at *
    clear hB
    have c0 : w1.cell? ⟨B, 0, none⟩ = some (.pointer (some ⟨b, 0, none⟩)) := World.cell_of_heap y0 0
    have c1 := World.cell_of_heap y1 0
    have c2 : w1.cell? ⟨B + 1 + 1, 0, none⟩ = some (.int .i64 k) := World.cell_of_heap y2 0
    simp only [List.getElem?_toArray, List.getElem?_cons_zero] at c1
    clear y0 y1 y2 hold nF
    go_wp2_with fail
    go_quiet ((first | (go_at_call 26; exact quiet_left (idxOnes_any b l done _ F _ (hI1.drewN _))) | (go_at_call 25; exact quiet_left (idxLen_any b l done _ F _ (hI1.drewN _))) | (go_at_call 73; exact quiet_left (hof _))))
    go_wp2
    go_ret2
    exact ⟨rfl, HFF.out _⟩

end Go.Proofs.Ytlciacpffoekjaa
