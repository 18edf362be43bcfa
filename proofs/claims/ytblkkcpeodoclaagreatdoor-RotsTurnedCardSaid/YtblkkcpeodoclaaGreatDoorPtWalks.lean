/- Joined texts: Kind, Walk, Encode. -/
import Derived.Deep.CutRange
import Derived.Maps.Own
import Derived.Maps.OwnOps
import Derived.Maps.OwnSet
import Derived.Maps.Views
import Derived.StillTailTactics
import Derived.BigRegion
import Derived.Shelf.Strings.Builder1
import Derived.Test.YtblkkcpeodoclaaGreatDoorProg
import Derived.Test.YtblkkcpeodoclaaGreatDoorPtConn
import Derived.Test.YtblkkcpeodoclaaGreatDoorPtDarts
import Derived.Test.YtblkkcpeodoclaaGreatDoorPtRef3
import Derived.Test.YtblkkcpeodoclaaGreatDoorPtPlans
import Derived.Test.YtblkkcpeodoclaaGreatDoorPtRef4
/- The contracts of package walk: of which kind a dart is. -/
namespace Go.Proofs.YtblkkcpeodoclaaGreatDoor
open Go.RowKit

/-- A row of n marks at block g: of just those numbers that have P. -/
def BoolAt (wr : World) (g n : Nat) (P : Nat → Prop) : Prop :=
  ∃ bs : List Bool, bs.length = n ∧ (∀ x, x < n → (bs[x]? = some true ∧ P x) ∨ (bs[x]? = some false ∧ ¬ P x)) ∧ wr.heap[g]? = some (.cells (bs.map Value.bool).toArray 4 (0, 0))

theorem BoolAt.made (w : World) (n : Nat) {P : Nat → Prop} (hP : ∀ x, x < n → ¬ P x) : BoolAt (w.alloc (.cells (madeCells #[.bool false] n) 4)) w.heap.size n P := by
  obtain ⟨bs, h1, h2, h3, _⟩ := SeenS.made w n hP
  exact ⟨bs, h1, h2, h3⟩

theorem BoolAt.keeps {w w' : World} {g n : Nat} {P : Nat → Prop} {G : Nat → Prop} (h : BoolAt w g n P) (k : Keeps G w w') (hg : ¬ G g) : BoolAt w' g n P := by
  obtain ⟨bs, h1, h2, h3⟩ := h
  exact ⟨bs, h1, h2, k.at h3 hg⟩

theorem BoolAt.cell {wr : World} {g n : Nat} {P : Nat → Prop} (h : BoolAt wr g n P) {x : Nat} (hx : x < n) : ∃ t : Bool, (t = true ↔ P x) ∧ wr.cell? ⟨g, x, none⟩ = some (.bool t) ∧ wr.frozen? ⟨g, x, none⟩ = false := by
  obtain ⟨bs, h1, h2, h3⟩ := h
  have hc := World.cell_of_heap h3 x
  have hf := World.free_of_heap h3 x
  rcases h2 x hx with ⟨a, b⟩ | ⟨a, b⟩
  · exact ⟨true, by simp [b], by rw [hc]; simp [a], hf⟩
  · exact ⟨false, by simp [b], by rw [hc]; simp [a], hf⟩

theorem BoolAt.set {wr : World} {g n : Nat} {P Q : Nat → Prop} (h : BoolAt wr g n P) {x : Nat} (hx : x < n) (hQ : ∀ y, y < n → (Q y ↔ P y ∨ y = x)) : BoolAt (wr.setCell ⟨g, x, none⟩ (.bool true)) g n Q := by
  obtain ⟨bs, h1, h2, h3⟩ := h
  refine ⟨bs.set x true, by simpa using h1, fun y hy => ?_, ?_⟩
  · rw [List.getElem?_set]
    by_cases hxy : x = y
    · subst hxy
      left
      rw [if_pos rfl, if_pos (by omega)]
      exact ⟨rfl, (hQ x hx).2 (.inr rfl)⟩
    · rw [if_neg hxy]
      rcases h2 y hy with ⟨a, b⟩ | ⟨a, b⟩
      · exact .inl ⟨a, (hQ y hy).2 (.inl b)⟩
      · exact .inr ⟨a, fun hq => by rcases (hQ y hy).1 hq with c | c; exact b c; exact hxy c.symm⟩
  · rw [heap_setCell_same h3 x (.bool true)]
    simp [List.map_set]

end Go.Proofs.YtblkkcpeodoclaaGreatDoor

/- The contracts of package walk: a map is walked; the steps' word. -/
namespace Go.Proofs.YtblkkcpeodoclaaGreatDoor
open Go.RowKit

end Go.Proofs.YtblkkcpeodoclaaGreatDoor

/- The contracts of packages walk and turan: the word of steps; the word of a map. -/
namespace Go.Proofs.YtblkkcpeodoclaaGreatDoor
open Go.RowKit

end Go.Proofs.YtblkkcpeodoclaaGreatDoor
