/- slices.Clone of bytes; a literal of bytes. -/
import Derived.Test.YtblkkcpeodoclaaGreatDoorPcOwnY
import Derived.Test.YtblkkcpeodoclaaGreatDoorPcConn
namespace Go.Proofs.YtblkkcpeodoclaaGreatDoor
open Go.RowKit

theorem own_emptyY (w : World) : OwnY w.heap.size (w.alloc (.cells #[] 5)) (.slice (some ⟨w.heap.size, 0, none⟩) 0 0) [] := by
  refine ⟨rfl, .inr ⟨w.heap.size, 0, #[], rfl, Nat.le_refl _, heap_alloc_new w _, Nat.le_refl _, Nat.zero_le _, ?_, ?_⟩⟩ <;> simp [ys, nats]

set_option maxRecDepth 100000 in
set_option maxHeartbeats 1000000 in
theorem cloneY_any (sv : Value) (bs : List Nat) (w : World) (hs : Sl .u8 w sv (nats bs)) (hl : bs.length ≤ 1000000000) :
    Calls Tryz.prog 8 #[sv] w fun e w' => ∃ v, e = .returned v ∧ OwnY w.heap.size w' v bs ∧ Keeps (fun _ => False) w w' := by
  have hnil := fun (w : World) (a : Option Addr) (n c : Nat) => Lib.run_eql_slice_nil (P := Tryz.prog) w 22 5 a n c 0 0 Tryz.underlying22
  have hs0 := hs
  obtain ⟨a, cap, rfl, hnc, hcm, hnone, hc⟩ := hs
  rw [nats_len] at *
  cases a with
  | none =>
    obtain ⟨rfl, -, rfl⟩ := hs0.noneY
    clear hc hs0 hnone
    go_enter Tryz.func8, Tryz.ntmps8
    go_wp2
    go_ret
    exact ⟨_, rfl, OwnY.nil _ _, Keeps.refl _ _⟩
  | some a =>
    have k0 := (Keeps.refl (fun _ => False) w).alloc (.cells #[] 5)
    have hs1 := hs0.keeps k0 (fun _ _ h => h)
    have ho := own_emptyY w
    have H0 := Lib.hid (And.intro hs1 (And.intro ho k0))
    clear hc hs0 hnone hs1 ho k0
    go_enter Tryz.func8, Tryz.ntmps8
    go_wp2_with (at_builtin; (refine appendY rfl _ _ rfl w.heap.size (.slice (some ⟨w.heap.size, 0, none⟩) 0 0) (.slice (some a) bs.length cap) [] bs rfl rfl H0.out.2.1 H0.out.1 (by simp; omega) (by simp) ?_); intro v5 w5 hown5 hk5 hf5)
    have HF : Hid (OwnY w.heap.size w5 v5 bs ∧ Keeps (fun _ => False) w w5) := Lib.hid ⟨by simpa using hown5, H0.out.2.2.trans hk5 (fun x hx h => by simp only [Value.ownBlock, Option.some.injEq] at h; omega)⟩
    clear hown5 hk5 hf5
    go_wp2
    go_ret
    exact ⟨_, rfl, HF.out⟩

theorem sl_const {w : World} {g : Nat} {bs : List Nat} {fr : Nat × Nat} (hb : w.heap[g]? = some (.cells (ys bs).toArray 5 fr)) (hl : bs.length ≤ 1000000000) : Sl .u8 w (.slice (some ⟨g, 0, none⟩) bs.length bs.length) (nats bs) := by
  refine ⟨some ⟨g, 0, none⟩, bs.length, (by rw [nats_len]), (by rw [nats_len]; exact Nat.le_refl _), (by omega), (fun h => nomatch h), fun j z hz => ⟨g, 0, rfl, ?_⟩⟩
  rw [World.cell_of_heap hb, Nat.zero_add]
  unfold ys
  simp [hz]

end Go.Proofs.YtblkkcpeodoclaaGreatDoor
