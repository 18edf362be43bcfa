/- slices.Clone of ints. -/
import Derived.Shelf.Strings.Builder1
import Derived.Test.YtblkkcpeodoclaaGreatDoorProg
import Derived.Test.YtblkkcpeodoclaaGreatDoorPcRef4
import Derived.Test.YtblkkcpeodoclaaGreatDoorPcConn
namespace Go.Proofs.YtblkkcpeodoclaaGreatDoor
open Go.RowKit

theorem own_empty (w : World) : OwnI w.heap.size (w.alloc (.cells #[] 3)) (.slice (some ⟨w.heap.size, 0, none⟩) 0 0) [] := by
  refine ⟨rfl, .inr ⟨w.heap.size, 0, #[], rfl, Nat.le_refl _, heap_alloc_new w _, Nat.le_refl _, Nat.zero_le _, ?_, ?_⟩⟩ <;> simp [ints]

set_option maxRecDepth 100000 in
set_option maxHeartbeats 1000000 in
theorem clone_any (sv : Value) (zs : List Int) (w : World) (hs : Sl .i64 w sv zs) (hl : zs.length ≤ 1000000000) :
    Calls Tryz.prog 50 #[sv] w fun e w' => ∃ v, e = .returned v ∧ OwnI w.heap.size w' v zs ∧ Keeps (fun _ => False) w w' := by
  have hnil := fun (w : World) (a : Option Addr) (n c : Nat) => Lib.run_eql_slice_nil (P := Tryz.prog) w 33 3 a n c 0 0 Tryz.underlying33
  have hs0 := hs
  obtain ⟨a, cap, rfl, hnc, hcm, hnone, hc⟩ := hs
  cases a with
  | none =>
    have hz : zs = [] := by
      cases zs with
      | nil => rfl
      | cons y ys => obtain ⟨g, off, h, _⟩ := hc 0 y rfl; cases h
    subst hz
    obtain rfl := hnone rfl
    clear hc hs0 hnone
    go_enter Tryz.func50, Tryz.ntmps50
    go_wp2
    go_ret
    exact ⟨_, rfl, OwnI.nil _ _, Keeps.refl _ _⟩
  | some a =>
    have k0 := (Keeps.refl (fun _ => False) w).alloc (.cells #[] 3)
    have hs1 := hs0.keeps k0 (fun _ _ h => h)
    have ho := own_empty w
    have H0 := Lib.hid (And.intro hs1 (And.intro ho k0))
    clear hc hs0 hnone hs1 ho k0
    go_enter Tryz.func50, Tryz.ntmps50
    go_wp2_with (at_builtin; (refine appendInts rfl _ _ rfl w.heap.size (.slice (some ⟨w.heap.size, 0, none⟩) 0 0) (.slice (some a) zs.length cap) [] zs rfl rfl H0.out.2.1 H0.out.1 (by simp; omega) (by simp) ?_); intro v5 w5 hown5 hk5 hf5)
    have HF : Hid (OwnI w.heap.size w5 v5 zs ∧ Keeps (fun _ => False) w w5) := Lib.hid ⟨by simpa using hown5, H0.out.2.2.trans hk5 (fun x hx h => by simp only [Value.ownBlock, Option.some.injEq] at h; omega)⟩
    clear hown5 hk5 hf5
    go_wp2
    go_ret
    exact ⟨_, rfl, HF.out⟩

/-! slices.Equal of two equal rows of numbers. -/

end Go.Proofs.YtblkkcpeodoclaaGreatDoor
