/- The contracts of package paren: over. -/
import Derived.Test.YtlciacpffoekjaaParen2
import Derived.Laws.Rows
namespace Go.Proofs.Ytlciacpffoekjaa
open Go.RowKit

theorem ret_cell {P : Program} {fn : Func} {R : Ending → World → Prop} {a : Act} {W0 : World} {g : Nat} {p : Tmp} {ty : TypeId} {cs : Array Value} {d : TypeDesc} (h : fn.results = #[.cell p ty]) (hg : W0.heap.size = g)
    (hp : a.tmps.getD p undef = .pointer (some ⟨g, 0, none⟩)) (hu : P.underlying ty = some d) (hd : (match d with | .struct _ | .array _ _ => true | _ => false) = true) (hi : (P.info? ty).map (·.size) = some cs.size)
    (hdf : a.defers = []) (hR : R (.returned (.agg cs)) (W0.alloc (.cells cs ty))) : bodyPost P fn R .ret a (W0.alloc (.cells cs ty)) := by
  refine bodyPost_ret (results_cell_row h _ _ g ty cs (0, 0) d hp ?_ hu hd hi) hdf hR
  rw [← hg]
  exact heap_alloc_new W0 _

theorem agg2 {a b c d : Int} (h : a = c) (k : b = d) : Ending.returned (.agg #[.int .i64 a, .int .i64 b]) = .returned (.agg #[.int .i64 c, .int .i64 d]) := by rw [h, k]

set_option maxRecDepth 100000 in
set_option maxHeartbeats 1000000 in
theorem over_any (s1 l1 s2 l2 : Int) (w : World) (h1 : -200000000 ≤ s1 ∧ s1 ≤ 200000000) (h2 : -200000000 ≤ l1 ∧ l1 ≤ 200000000) (h3 : -200000000 ≤ s2 ∧ s2 ≤ 200000000) (h4 : -200000000 ≤ l2 ∧ l2 ≤ 200000000) (hle : l1 ≤ s1) :
    Calls Try.prog 115 #[.agg #[.int .i64 s1, .int .i64 l1], .agg #[.int .i64 s2, .int .i64 l2]] w fun e w' => e = .returned (.agg #[.int .i64 (s1 + s2), .int .i64 (min l1 (s1 + l2))]) ∧ Keeps (fun _ => False) w w' := by
  by_cases hz : s2 = 0 ∧ l2 = 0
  · obtain ⟨rfl, rfl⟩ := hz
    go_enter Try.func115, Try.ntmps115
    go_wp2
    all_goals (refine ret_cell rfl (by simp) rfl Try.underlying121 rfl (by kernel_rfl) rfl ⟨agg2 (by omega) (by omega), (((Keeps.refl _ w).alloc _).alloc _).alloc _⟩)
  · by_cases hs : s2 = 0
    · subst hs
      have hl : (l2 == 0) = false := by rw [beq_eq_false_iff_ne]; exact fun h => hz ⟨rfl, h⟩
      clear hz
      go_enter Try.func115, Try.ntmps115
      go_wp2
      all_goals (refine ret_cell rfl (by simp) rfl Try.underlying121 rfl (by kernel_rfl) rfl ⟨agg2 (by omega) (by omega), (((Keeps.refl _ w).alloc _).alloc _).alloc _⟩)
    · have hl : (s2 == 0) = false := by rw [beq_eq_false_iff_ne]; exact hs
      clear hz hs
      go_enter Try.func115, Try.ntmps115
      go_wp2
      all_goals (refine ret_cell rfl (by simp) rfl Try.underlying121 rfl (by kernel_rfl) rfl ⟨agg2 (by omega) (by omega), (((Keeps.refl _ w).alloc _).alloc _).alloc _⟩)

end Go.Proofs.Ytlciacpffoekjaa
