/- sync.Once and the counters of sync/atomic, in one goroutine. -/
import Derived.Test.YtlciacpffoekjaaBits
import Derived.Defers
import Derived.Laws.LoneSync
import Derived.RegionCalls
namespace Go.Proofs.Ytlciacpffoekjaa
open Go.RowKit

theorem disable (w : World) : (callFunc 131 #[]).run Try.prog w = .ok (.value (.tuple #[])) w := run_call_mark0 Try.func131 (by kernel_rfl) (by kernel_rfl) (by kernel_rfl) .disable (by kernel_rfl) w
theorem enable (w : World) : (callFunc 133 #[]).run Try.prog w = .ok (.value (.tuple #[])) w := run_call_mark0 Try.func133 (by kernel_rfl) (by kernel_rfl) (by kernel_rfl) .enable (by kernel_rfl) w
theorem acquire (a : Addr) (w : World) : (callFunc 134 #[.pointer (some a)]).run Try.prog w = .ok (.value (.tuple #[])) w := run_call_marked Try.func134 (by kernel_rfl) (by kernel_rfl) (by kernel_rfl) .acquire (by kernel_rfl) a w
theorem releaseMerge (a : Addr) (w : World) : (callFunc 136 #[.pointer (some a)]).run Try.prog w = .ok (.value (.tuple #[])) w := run_call_marked Try.func136 (by kernel_rfl) (by kernel_rfl) (by kernel_rfl) .releaseMerge (by kernel_rfl) a w

/-- '(*sync/atomic.Bool).Store(true)', entered as a deferred call. -/
theorem store_deferred (a : Addr) (x : Value) (u : FrameMode) (w : World) (hc : w.cell? a = some x) (hz : w.frozen? a = false) :
    CallsD Try.prog 123 #[.pointer (some a), .bool true] u w fun e u' w' => u' = u ∧ (e = .returned (.tuple #[]) ∧ w' = w.drew.setCell a (.int .u32 1)) := by
  have hc' : w.drew.cell? a = some x := by go_simp
  have hz' : w.drew.frozen? a = false := by go_simp
  have hst := run_call_store (P := Try.prog) Try.func128 (by kernel_rfl) (by kernel_rfl) (by kernel_rfl) (by kernel_rfl) (k := .u32) (y := 1) hc' hz'
  go_enter_d Try.func123, Try.ntmps123
  go_wp2
  go_region_calls
  all_goals (go_end0; exact ⟨rfl, rfl⟩)

set_option maxRecDepth 100000 in
/-- '(*sync.Mutex).Unlock', entered as a deferred call, the lock held and nobody waiting. -/
theorem unlock_deferred (a : Addr) (u : FrameMode) (w : World) (hc : w.cell? a = some (.int .i32 1)) (hz : w.frozen? a = false) :
    CallsD Try.prog 122 #[.pointer (some a)] u w fun e u' w' => u' = u ∧ (e = .returned (.tuple #[]) ∧ w' = w.setCell a (.int .i32 0)) := by
  have hd := disable
  have he := enable
  have hr := releaseMerge
  have hadd := run_call_add (P := Try.prog) Try.func137 (by kernel_rfl) (by kernel_rfl) (by kernel_rfl) .i32 (by kernel_rfl) (y := -1) (s := 0) hc hz (by simp [go_sem]; rfl)
  have hcv := run_convert_to_unsafe (P := Try.prog) (src := 162) (dst := 160) Try.underlying162 Try.underlying160 (by kernel_rfl) hc
  go_enter_d Try.func122, Try.ntmps122
  go_wp2
  go_end0
  go_wp2
  go_end0
  exact ⟨rfl, rfl⟩

set_option maxRecDepth 100000 in
/-- '(*sync.Mutex).Lock', the lock free. -/
theorem lock_free (a : Addr) (w : World) (hc : w.cell? a = some (.int .i32 0)) (hz : w.frozen? a = false) :
    Calls Try.prog 121 #[.pointer (some a)] w fun e w' => e = .returned (.tuple #[]) ∧ w' = w.setCell a (.int .i32 1) := by
  have hd := disable
  have he := enable
  have ha := acquire
  have hcas := run_call_cas_hit (P := Try.prog) Try.func132 (by kernel_rfl) (by kernel_rfl) (by kernel_rfl) .i32 (by kernel_rfl) (y := 1) hc hz
  have hc' : (w.setCell a (.int .i32 1)).cell? a = some (.int .i32 1) := World.cell?_setCell_same w a _ hc
  have hcv := run_convert_to_unsafe (P := Try.prog) (src := 162) (dst := 160) Try.underlying162 Try.underlying160 (by kernel_rfl) hc'
  go_enter Try.func121, Try.ntmps121
  go_wp2
  first | go_end0 | (simp only [Exit.inBlock, Exit.then]; refine bodyPost_ret (results_none rfl _ _ _) rfl ?_) | refine bodyPost_ret (results_none rfl _ _ _) rfl ?_
  go_wp2
  go_end0
  exact ⟨rfl, rfl⟩

/-- What the function that is done once leaves: it has returned, the Once is as it was, its lock held. -/
def CallbackDone (b off : Nat) (R : World → Prop) (e : Ending) (w' : World) : Prop :=
  e = .returned (.tuple #[]) ∧ w'.cell? ⟨b, off, none⟩ = some (.int .u32 0) ∧ w'.cell? ⟨b, off + 1, none⟩ = some (.int .i32 1) ∧ w'.frozen? ⟨b, off, none⟩ = false ∧ w'.frozen? ⟨b, off + 1, none⟩ = false ∧ R w'

set_option maxRecDepth 100000 in
set_option maxHeartbeats 1600000 in
/-- '(*sync.Once).doSlow', not yet done, the lock free. -/
theorem slow_any (b off : Nat) (fn : FuncId) (first : Array Value) (R : World → Prop) (w : World) (hfn : ∀ W, (callFunc fn first).run Try.prog W = .ok (.enter fn first) W)
    (h0 : w.cell? ⟨b, off, none⟩ = some (.int .u32 0)) (h1 : w.cell? ⟨b, off + 1, none⟩ = some (.int .i32 0))
    (f1 : w.frozen? ⟨b, off + 1, none⟩ = false)
    (hcb : Calls Try.prog fn first (w.setCell ⟨b, off + 1, none⟩ (.int .i32 1)) (CallbackDone b off R)) :
    Calls Try.prog 111 #[.pointer (some ⟨b, off, none⟩), .func (.func fn) first #[]] w fun e w' => e = .returned (.tuple #[]) ∧
      ∃ w1, R w1 ∧ w' = (w1.drew.setCell ⟨b, off, none⟩ (.int .u32 1)).setCell ⟨b, off + 1, none⟩ (.int .i32 0) := by
  have hl := run_call_load (P := Try.prog) Try.func120 (by kernel_rfl) (by kernel_rfl) (by kernel_rfl) .u32 (by kernel_rfl) (w := w.setCell ⟨b, off + 1, none⟩ (.int .i32 1)) (a := ⟨b, off, none⟩) (x := 0) ((World.cell?_setCell_other _ ⟨b, off + 1, none⟩ ⟨b, off, none⟩ _ (by simp)).trans h0)
  have hnot : ∀ (x : Bool) (w : World), (Op.unary .not (.bool x)).run Try.prog w = .ok (.bool (!x)) w := fun _ _ => rfl
  have HC := Lib.hid hcb
  clear hcb
  go_enter_defers Try.func111, Try.ntmps111
  go_wp2_with (go_at_call 121; refine (lock_free ⟨b, off + 1, none⟩ _ (by go_simp) (by go_simp)).mono ?_; rintro e w' ⟨rfl, rfl⟩)
  go_wp2
  refine HC.out.mono ?_
  rintro e w1 ⟨rfl, c0, c1, g0, g1, hR⟩
  clear h0 h1 f1 hl HC
  go_wp2
  refine leaves_cons (f := 123) (args := #[.pointer (some ⟨b, off, none⟩), .bool true]) (by simp) (by simp [go_sem]) ?_
  refine (store_deferred ⟨b, off, none⟩ (.int .u32 0) .returning _ c0 g0).mono ?_
  rintro e u' w'' ⟨rfl, rfl, rfl⟩
  refine leaves_cons (f := 122) (args := #[.pointer (some ⟨b, off + 1, none⟩)]) (by simp [settle]) (by simp [go_sem]) ?_
  refine (unlock_deferred ⟨b, off + 1, none⟩ _ _ ?_ (by simp [g1])).mono ?_
  · refine (World.cell?_setCell_other _ ⟨b, off, none⟩ ⟨b, off + 1, none⟩ _ (by simp)).trans ?_
    rw [World.cell?_drew]
    exact c1
  rintro e u' w'' ⟨rfl, rfl, rfl⟩
  simp [Leaves, settle, results, Try.results111]
  exact ⟨w1, hR, rfl⟩

set_option maxRecDepth 100000 in
set_option maxHeartbeats 1600000 in
/-- '(*sync.Once).Do', not yet done, the lock free. -/
theorem do_first (b off : Nat) (fn : FuncId) (first : Array Value) (R : World → Prop) (w : World) (hfn : ∀ W, (callFunc fn first).run Try.prog W = .ok (.enter fn first) W)
    (h0 : w.cell? ⟨b, off, none⟩ = some (.int .u32 0)) (h1 : w.cell? ⟨b, off + 1, none⟩ = some (.int .i32 0))
    (f1 : w.frozen? ⟨b, off + 1, none⟩ = false)
    (hcb : Calls Try.prog fn first (w.setCell ⟨b, off + 1, none⟩ (.int .i32 1)) (CallbackDone b off R)) :
    Calls Try.prog 75 #[.pointer (some ⟨b, off, none⟩), .func (.func fn) first #[]] w fun e w' => e = .returned (.tuple #[]) ∧
      ∃ w1, R w1 ∧ w' = (w1.drew.setCell ⟨b, off, none⟩ (.int .u32 1)).setCell ⟨b, off + 1, none⟩ (.int .i32 0) := by
  have hl := run_call_load (P := Try.prog) Try.func120 (by kernel_rfl) (by kernel_rfl) (by kernel_rfl) .u32 (by kernel_rfl) h0
  have hnot : ∀ (x : Bool) (w : World), (Op.unary .not (.bool x)).run Try.prog w = .ok (.bool (!x)) w := fun _ _ => rfl
  have HS := Lib.hid (slow_any b off fn first R w hfn h0 h1 f1 hcb)
  clear hcb hfn
  go_enter Try.func75, Try.ntmps75
  go_wp2_with (first | (go_at_call 111; refine HS.out.mono ?_; rintro e w' ⟨rfl, hR⟩) | (go_at_call 110; go_in))
  go_end0
  exact ⟨rfl, hR⟩

/-- '(*sync.Once).Do', done already: the function is not called. -/
theorem do_done (a : Addr) (fv : Value) (w : World) (h0 : w.cell? a = some (.int .u32 1)) :
    Calls Try.prog 75 #[.pointer (some a), fv] w fun e w' => e = .returned (.tuple #[]) ∧ w = w' := by
  have hl := run_call_load (P := Try.prog) Try.func120 (by kernel_rfl) (by kernel_rfl) (by kernel_rfl) .u32 (by kernel_rfl) h0
  have hnot : ∀ (x : Bool) (w : World), (Op.unary .not (.bool x)).run Try.prog w = .ok (.bool (!x)) w := fun _ _ => rfl
  go_enter Try.func75, Try.ntmps75
  go_wp2
  go_end0
  exact ⟨rfl, rfl⟩

/-- '(*sync/atomic.Int64).Add'. -/
theorem add64 (a : Addr) (x y : Int) (w : World) (hc : w.cell? a = some (.int .i64 x)) (hz : w.frozen? a = false) (hb : -9223372036854775808 ≤ x + y ∧ x + y ≤ 9223372036854775807) :
    Calls Try.prog 72 #[.pointer (some a), .int .i64 y] w fun e w' => e = .returned (.int .i64 (x + y)) ∧ w' = w.setCell a (.int .i64 (x + y)) := by
  have hadd := run_call_add (P := Try.prog) Try.func109 (by kernel_rfl) (by kernel_rfl) (by kernel_rfl) .i64 (by kernel_rfl) (y := y) (s := x + y) hc hz (by simp [go_sem, IntWalk.i64_in _ hb])
  clear hb
  go_enter Try.func72, Try.ntmps72
  go_wp2
  go_ret
  exact ⟨rfl, rfl⟩

/-- '(*sync/atomic.Int64).Load'. -/
theorem load64 (a : Addr) (x : Int) (w : World) (hc : w.cell? a = some (.int .i64 x)) :
    Calls Try.prog 80 #[.pointer (some a)] w fun e w' => e = .returned (.int .i64 x) ∧ w = w' := by
  have hl := run_call_load (P := Try.prog) Try.func112 (by kernel_rfl) (by kernel_rfl) (by kernel_rfl) .i64 (by kernel_rfl) hc
  go_enter Try.func80, Try.ntmps80
  go_wp2
  go_ret
  exact ⟨rfl, rfl⟩

end Go.Proofs.Ytlciacpffoekjaa
