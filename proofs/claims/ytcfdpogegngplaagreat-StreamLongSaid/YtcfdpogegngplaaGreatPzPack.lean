/- pack: coded, Pack, part. -/
import Derived.Deep.RegionWith
import Derived.Test.YtcfdpogegngplaaGreatPzDecodeC
import Derived.Test.YtcfdpogegngplaaGreatPzGetNum
namespace Go.Proofs.YtcfdpogegngplaaGreat
open Go.RowKit

theorem OwnY.lit1 (w : World) (z : Nat) : OwnY w.heap.size (w.alloc (.cells #[.int .u8 (z : Int)] 5)) (.slice (some ⟨w.heap.size, 0, none⟩) 1 1) [z] :=
  World.ownsRow_lit (base := w.heap.size) (e := 5) (size := 1) w #[.int .u8 z] 1 (Nat.le_refl _) (by unfold maxLen; omega) rfl

/-! pack.read. -/

theorem Sl.tailY {w : World} {g off n cap : Nat} {cs : List Nat} (h : Sl .u8 w (.slice (some ⟨g, off, none⟩) n cap) (nats cs)) (k : Nat) (hk : k ≤ n) : Sl .u8 w (.slice (some ⟨g, off + k, none⟩) (n - k) (cap - k)) (nats (cs.drop k)) := by
  obtain ⟨a', cap', hv, h1, h2, h3, h4⟩ := h
  simp only [Value.slice.injEq] at hv
  obtain ⟨rfl, rfl, rfl⟩ := hv
  have e : (nats cs).length = cs.length := by simp [nats]
  have e2 : (nats (cs.drop k)).length = cs.length - k := by simp [nats]
  rw [e] at h1 hk ⊢
  refine ⟨_, cap - k, by rw [e2], by rw [e2]; omega, by omega, (fun h => by cases h), fun j z hj => ?_⟩
  have hj2 : (nats cs)[k + j]? = some z := by
    simp only [nats, List.getElem?_map, List.getElem?_drop] at hj ⊢
    exact hj
  obtain ⟨g', off', hg, hc⟩ := h4 (k + j) z hj2
  simp only [Option.some.injEq, Addr.mk.injEq, and_true] at hg
  obtain ⟨rfl, rfl⟩ := hg
  exact ⟨g, off + k, rfl, by rw [Nat.add_assoc]; exact hc⟩

theorem Sl.emptyY (w : World) (a : Option Addr) : Sl .u8 w (.slice a 0 0) (nats []) := ⟨a, 0, rfl, by simp [nats], by decide, fun _ => rfl, fun j z hj => by simp [nats] at hj⟩

end Go.Proofs.YtcfdpogegngplaaGreat
