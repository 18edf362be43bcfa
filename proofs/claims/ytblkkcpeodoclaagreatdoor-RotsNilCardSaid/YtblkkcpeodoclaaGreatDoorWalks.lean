/- Joined texts: Kind, Walk, Encode. -/
import Derived.Test.YtblkkcpeodoclaaGreatDoorEulers
import Derived.Test.YtblkkcpeodoclaaGreatDoorPlans
import Derived.Test.YtblkkcpeodoclaaGreatDoorNil

/- The contracts of package walk: of which kind a dart is. -/
namespace Go.Proofs.YtblkkcpeodoclaaGreatDoor
open Go.RowKit

/-- A row of n marks at block g: of just those numbers that have P. -/
def BoolAt (wr : World) (g n : Nat) (P : Nat → Prop) : Prop :=
  ∃ bs : List Bool, bs.length = n ∧ (∀ x, x < n → (bs[x]? = some true ∧ P x) ∨ (bs[x]? = some false ∧ ¬ P x)) ∧ wr.heap[g]? = some (.cells (bs.map Value.bool).toArray 4 (0, 0))

theorem BoolAt.lt {wr : World} {g n : Nat} {P : Nat → Prop} (h : BoolAt wr g n P) : g < wr.heap.size := by
  obtain ⟨_, _, _, h3⟩ := h
  exact lt_of_block h3

theorem BoolAt.made (w : World) (n : Nat) {P : Nat → Prop} (hP : ∀ x, x < n → ¬ P x) : BoolAt (w.alloc (.cells (madeCells #[.bool false] n) 4)) w.heap.size n P := by
  obtain ⟨bs, h1, h2, h3, _⟩ := SeenS.made w n hP
  exact ⟨bs, h1, h2, h3⟩

theorem BoolAt.keeps {w w' : World} {g n : Nat} {P : Nat → Prop} {G : Nat → Prop} (h : BoolAt w g n P) (k : Keeps G w w') (hg : ¬ G g) : BoolAt w' g n P := by
  obtain ⟨bs, h1, h2, h3⟩ := h
  exact ⟨bs, h1, h2, k.at h3 hg⟩

theorem BoolAt.iff {wr : World} {g n : Nat} {P Q : Nat → Prop} (h : BoolAt wr g n P) (hQ : ∀ x, x < n → (Q x ↔ P x)) : BoolAt wr g n Q := by
  obtain ⟨bs, h1, h2, h3⟩ := h
  refine ⟨bs, h1, fun x hx => ?_, h3⟩
  rcases h2 x hx with ⟨a, b⟩ | ⟨a, b⟩
  · exact .inl ⟨a, (hQ x hx).2 b⟩
  · exact .inr ⟨a, fun hq => b ((hQ x hx).1 hq)⟩

theorem BoolAt.cell {wr : World} {g n : Nat} {P : Nat → Prop} (h : BoolAt wr g n P) {x : Nat} (hx : x < n) : ∃ t : Bool, (t = true ↔ P x) ∧ wr.cell? ⟨g, x, none⟩ = some (.bool t) ∧ wr.frozen? ⟨g, x, none⟩ = false := by
  obtain ⟨bs, h1, h2, h3⟩ := h
  have hc := World.cell_of_heap h3 x
  have hf := World.free_of_heap h3 x
  rcases h2 x hx with ⟨a, b⟩ | ⟨a, b⟩
  · exact ⟨true, by simp [b], by rw [hc]; simp [a], hf⟩
  · exact ⟨false, by simp [b], by rw [hc]; simp [a], hf⟩

theorem BoolAt.set {wr : World} {g n : Nat} {P Q : Nat → Prop} (h : BoolAt wr g n P) {x : Nat} (hx : x < n) (hQ : ∀ y, y < n → (Q y ↔ P y ∨ y = x)) : BoolAt (wr.setCell ⟨g, x, none⟩ (.bool true)) g n Q := by
  obtain ⟨bs, h1, h2, h3⟩ := h
  refine ⟨bs.set x true, by simpa using h1, fun y hy => ?_, ?_⟩
  · rw [List.getElem?_set]
    by_cases hxy : x = y
    · subst hxy
      left
      rw [if_pos rfl, if_pos (by omega)]
      exact ⟨rfl, (hQ x hx).2 (.inr rfl)⟩
    · rw [if_neg hxy]
      rcases h2 y hy with ⟨a, b⟩ | ⟨a, b⟩
      · exact .inl ⟨a, (hQ y hy).2 (.inl b)⟩
      · exact .inr ⟨a, fun hq => by rcases (hQ y hy).1 hq with c | c; exact b c; exact hxy c.symm⟩
  · rw [heap_setCell_same h3 x (.bool true)]
    simp [List.map_set]

/-- What is kept of the edges: the kind of the first dart, and one more. -/
def EdJ (out : List (Nat × Nat)) (m : Nat) (zs : List Int) : Prop := ∀ e, e < m → zs[e]? = some (match fstK out e with | some k => (k : Int) + 1 | none => 0)

theorem EdJ.old {out : List (Nat × Nat)} {m d k x : Nat} {zs : List Int} (h : EdJ out m zs) (hf : fstK out (d / 2) = some x) : EdJ (out ++ [(d, k)]) m zs := fun e he => by
  rw [h e he, fstK_old (k := k) hf e]

theorem EdJ.new {out : List (Nat × Nat)} {m d k : Nat} {zs : List Int} (hl : zs.length = m) (h : EdJ out m zs) (hf : fstK out (d / 2) = none) (hd : d / 2 < m) : EdJ (out ++ [(d, k)]) m (zs.set (d / 2) ((k : Int) + 1)) := fun e he => by
  rw [List.getElem?_set, fstK_snoc]
  by_cases c : d / 2 = e
  · subst c
    rw [if_pos rfl, if_pos (by omega), hf]; simp
  · rw [if_neg c, h e he, if_neg c]
    cases fstK out e <;> rfl

theorem flat2_get : ∀ (ps : List (Nat × Nat)) (j : Nat) (p : Nat × Nat), ps[j]? = some p → ((ps.map fun p => [Value.int .i64 p.1, Value.int .i64 p.2]).flatten)[j * 2]? = some (.int .i64 p.1) ∧ ((ps.map fun p => [Value.int .i64 p.1, Value.int .i64 p.2]).flatten)[j * 2 + 1]? = some (.int .i64 p.2)
  | [], j, p, h => by simp at h
  | q :: ps, 0, p, h => by
    obtain rfl : q = p := by simpa using h
    exact ⟨rfl, rfl⟩
  | q :: ps, j + 1, p, h => by
    have ih := flat2_get ps j p (by simpa using h)
    have e1 : (j + 1) * 2 = j * 2 + 1 + 1 := by omega
    rw [e1]
    exact ih


theorem MapQ.fromDrew {w w' : World} {b : Nat} {s : List Nat} {root lone : Int} {R : Nat → Prop} (h : MapQ w.drew b s root lone R w') : MapQ w b s root lone R w' :=
  ⟨h.1, ((Keeps.refl (fun x => x = b) w).drew).trans h.2 (fun _ _ e => e)⟩

theorem kindB_some {vert : Nat → Nat} {root d x : Nat} {out : List (Nat × Nat)} (h : fstK out (d / 2) = some x) : kindB vert root out d = x + 1 := by rw [kindB_fst, h]
theorem kindB_none {vert : Nat → Nat} {root d : Nat} {out : List (Nat × Nat)} (h : fstK out (d / 2) = none) : kindB vert root out d = if metB vert root out (vert (mt d)) then 2 else 0 := by rw [kindB_fst, h]

end Go.Proofs.YtblkkcpeodoclaaGreatDoor

/- The contracts of package walk: a map is walked; the steps' word. -/
namespace Go.Proofs.YtblkkcpeodoclaaGreatDoor
open Go.RowKit

theorem cell_two_new (w : World) (a b : Value) (t : TypeId) : ∀ j u, [a, b][j]? = some u → (w.alloc (.cells #[a, b] t)).cell? ((⟨w.heap.size, 0, none⟩ : Addr).add j) = some u := by
  intro j u hj
  match j, hj with
  | 0, hj => simp at hj; subst hj; simp [Addr.add]
  | 1, hj => simp at hj; subst hj; simp [Addr.add]
  | j + 2, hj => simp at hj

/-- The first dart of an edge opens. -/
theorem fst_kind (S vert : Nat → Nat) (root : Nat) : ∀ j e k, fstK (wlk S vert root j).2 e = some k → k = 0 ∨ k = 2
  | 0, e, k, h => by simp [wlk, fstK] at h
  | j + 1, e, k, h => by
    have h1 : (wlk S vert root (j + 1)).2 = (wlk S vert root j).2 ++ [((wlk S vert root j).1, kindB vert root (wlk S vert root j).2 (wlk S vert root j).1)] := rfl
    rw [h1, fstK_snoc] at h
    cases hf : fstK (wlk S vert root j).2 e with
    | some x =>
      rw [hf] at h
      simp only [Option.some.injEq] at h
      subst h
      exact fst_kind S vert root j e x hf
    | none =>
      rw [hf] at h
      simp only at h
      by_cases he : (wlk S vert root j).1 / 2 = e
      · rw [if_pos he] at h
        simp only [Option.some.injEq] at h
        subst he
        rw [kindB_none hf] at h
        rw [← h]
        split
        · exact .inr rfl
        · exact .inl rfl
      · rw [if_neg he] at h; cases h

theorem alloc2 (w : World) (a b : Obj) : ((w.alloc a).alloc b).heap[w.heap.size]? = some a ∧ ((w.alloc a).alloc b).heap[w.heap.size + 1]? = some b ∧ Keeps (fun _ => False) w ((w.alloc a).alloc b) ∧ ((w.alloc a).alloc b).heap.size = w.heap.size + 2 := by
  have k := (Keeps.refl (fun _ => False) (w.alloc a)).alloc b
  refine ⟨k.at (heap_alloc_new w a) (fun h => h), ?_, ((Keeps.refl (fun _ => False) w).alloc a).trans k (fun _ _ h => h), by simp⟩
  have := heap_alloc_new (w.alloc a) b
  simpa using this

theorem alloc3 (w : World) (a b c : Obj) : (((w.alloc a).alloc b).alloc c).heap[w.heap.size]? = some a ∧ (((w.alloc a).alloc b).alloc c).heap[w.heap.size + 1]? = some b ∧ (((w.alloc a).alloc b).alloc c).heap[w.heap.size + 2]? = some c ∧ Keeps (fun _ => False) w (((w.alloc a).alloc b).alloc c) ∧ (((w.alloc a).alloc b).alloc c).heap.size = w.heap.size + 3 := by
  obtain ⟨h1, h2, h3, h4⟩ := alloc2 w a b
  have k := (Keeps.refl (fun _ => False) ((w.alloc a).alloc b)).alloc c
  refine ⟨k.at h1 (fun h => h), k.at h2 (fun h => h), ?_, h3.trans k (fun _ _ h => h), by simp⟩
  have := heap_alloc_new ((w.alloc a).alloc b) c
  rw [h4] at this
  exact this

theorem BoolAt.ofMade {w : World} {g n : Nat} (h : w.heap[g]? = some (.cells (madeCells #[.bool false] n) 4 (0, 0))) : BoolAt w g n (fun _ => False) := by
  have hc : madeCells #[.bool false] n = ((List.replicate n false).map Value.bool).toArray := by
    apply Array.toList_inj.1
    rw [toList_madeCells_one]; simp
  exact ⟨List.replicate n false, by simp, fun x hx => .inr ⟨by simp [hx], fun h => h⟩, by rw [← hc]; exact h⟩

end Go.Proofs.YtblkkcpeodoclaaGreatDoor

/- The contracts of packages walk and turan: the word of steps; the word of a map. -/
namespace Go.Proofs.YtblkkcpeodoclaaGreatDoor
open Go.RowKit

theorem kso_take_succ {out : List (Nat × Nat)} {j : Nat} {p : Nat × Nat} (h : out[j]? = some p) : (kso out).take (j + 1) = (kso out).take j ++ [p.2] := take_get (by simp [kso, h])

end Go.Proofs.YtblkkcpeodoclaaGreatDoor
