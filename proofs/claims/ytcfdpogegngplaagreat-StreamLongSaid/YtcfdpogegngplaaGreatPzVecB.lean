/- bits: Vec.Bytes, Of, Same. -/
import Derived.Laws.BitsAllLaws
import Derived.Deep.RegionHeld3
import Derived.Test.YtcfdpogegngplaaGreatPzConn
import Derived.Test.YtcfdpogegngplaaGreatPzNums
import Derived.Test.YtcfdpogegngplaaGreatPzFileP
namespace Go.Proofs.YtcfdpogegngplaaGreat
open Go.RowKit

/-! A row of bytes that the call made. -/

theorem OwnY.made (B : Nat) (w : World) (n : Nat) (hB : B ≤ w.heap.size) (hn : n ≤ 100000000) : OwnY B (w.alloc (.cells (madeCells #[.int .u8 0] n) 5)) (.slice (some ⟨w.heap.size, 0, none⟩) n n) (List.replicate n 0) := by
  have ht : (madeCells #[.int .u8 0] n).toList = ys (List.replicate n 0) := by rw [toList_madeCells_one]; simp [ys, nats]
  have h1 := World.ownsRow_lit (base := B) (e := 5) (size := 1) w (madeCells #[.int .u8 0] n) n hB (by unfold maxLen; omega) (by rw [size_madeCells]; omega)
  rw [ht] at h1
  unfold OwnY
  rw [List.length_replicate]
  exact h1
theorem OwnY.set {B : Nat} {w : World} {g n cap : Nat} {bs : List Nat} (h : OwnY B w (.slice (some ⟨g, 0, none⟩) n cap) bs) (i z : Nat) : OwnY B (w.setCell ⟨g, i, none⟩ (.int .u8 (z : Int))) (.slice (some ⟨g, 0, none⟩) n cap) (bs.set i z) := by
  have hn : n = bs.length := by
    obtain ⟨a, c, hv, _⟩ := h.form
    simp only [Value.slice.injEq] at hv
    exact hv.2.1
  subst hn
  have := owns_set h i (.int .u8 (z : Int))
  unfold OwnY
  rw [List.length_set]
  have e : ys (bs.set i z) = (ys bs).set i (.int .u8 (z : Int)) := by simp [ys, nats, List.map_set]
  rw [e]
  exact this
theorem OwnY.cell {B : Nat} {w : World} {g n cap : Nat} {bs : List Nat} (h : OwnY B w (.slice (some ⟨g, 0, none⟩) n cap) bs) {i z : Nat} (hz : bs[i]? = some z) : w.cell? ⟨g, i, none⟩ = some (.int .u8 (z : Int)) ∧ w.frozen? ⟨g, i, none⟩ = false := by
  have hi : i < bs.length := by
    rcases Nat.lt_or_ge i bs.length with h' | h'
    · exact h'
    · rw [List.getElem?_eq_none h'] at hz; cases hz
  obtain ⟨g', cap', hv, _, _, hc, _, _⟩ := owns_form h (by omega)
  simp only [Value.slice.injEq, Option.some.injEq, Addr.mk.injEq, and_true] at hv
  obtain ⟨rfl, _, _⟩ := hv
  exact hc i (.int .u8 (z : Int)) (by simp [ys, nats, hz])

/-! bits.Of. -/

/-! bits.Same. -/

end Go.Proofs.YtcfdpogegngplaaGreat
