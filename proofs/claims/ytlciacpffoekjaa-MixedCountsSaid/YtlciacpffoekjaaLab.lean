/- Blocks by labels: vectors and indexes that grow side by side. -/
import Derived.Test.YtlciacpffoekjaaMix4
namespace Go.Proofs.Ytlciacpffoekjaa
open Go.RowKit

/-- All blocks from n on bear a new label. -/
def relab (lab : Nat → Nat) (n j : Nat) : Nat → Nat := fun x => if x < n then lab x else j

theorem relab_old {lab : Nat → Nat} {n j x : Nat} (h : x < n) : relab lab n j x = lab x := if_pos h
theorem relab_new {lab : Nat → Nat} {n j x : Nat} (h : n ≤ x) : relab lab n j x = j := if_neg (by omega)

def VecL (w : World) (lab : Nat → Nat) (j b : Nat) (v : Value) (l : List Bool) : Prop := VecAt w b v l ∧ lab b = j ∧ ∀ k, v.ownBlock = some k → lab k = j
def IdxL (w : World) (lab : Nat → Nat) (j b : Nat) (l : List Bool) : Prop := ∃ F, IdxAt w b l false 0 F ∧ ∀ x, F x → lab x = j
def ParL (w : World) (lab : Nat → Nat) (j b : Nat) (l : List Bool) : Prop := ∃ F, ParAt w b l false 0 F ∧ ∀ x, F x → lab x = j

theorem VecL.keepsL {w w' : World} {lab : Nat → Nat} {i b : Nat} {v : Value} {l : List Bool} {G : Nat → Prop} (h : VecL w lab i b v l) (k : Keeps G w w') (hG : ∀ x, lab x = i → ¬ G x) (j : Nat) : VecL w' (relab lab w.heap.size j) i b v l :=
  ⟨h.1.keeps k (hG b h.2.1) (fun x hx => hG x (h.2.2 x hx)), (relab_old h.1.lt).trans h.2.1, fun x hx => (relab_old (h.1.apart x hx).2).trans (h.2.2 x hx)⟩

theorem IdxL.keepsL {w w' : World} {lab : Nat → Nat} {i b : Nat} {l : List Bool} {G : Nat → Prop} (h : IdxL w lab i b l) (k : Keeps G w w') (hG : ∀ x, lab x = i → ¬ G x) (j : Nat) : IdxL w' (relab lab w.heap.size j) i b l := by
  obtain ⟨F, h1, h2⟩ := h
  exact ⟨F, h1.keeps k (fun x hx => hG x (h2 x hx)), fun x hx => (relab_old (h1.old x hx)).trans (h2 x hx)⟩

theorem ParL.keepsL {w w' : World} {lab : Nat → Nat} {i b : Nat} {l : List Bool} {G : Nat → Prop} (h : ParL w lab i b l) (k : Keeps G w w') (hG : ∀ x, lab x = i → ¬ G x) (j : Nat) : ParL w' (relab lab w.heap.size j) i b l := by
  obtain ⟨F, h1, h2⟩ := h
  exact ⟨F, h1.keeps k (fun x hx => hG x (h2 x hx)), fun x hx => (relab_old (h1.old x hx)).trans (h2 x hx)⟩

theorem VecL.new (w : World) (lab : Nat → Nat) (j : Nat) : VecL (w.alloc (.cells #[.slice none 0 0, .int .i64 0] 111)) (relab lab w.heap.size j) j w.heap.size (.slice none 0 0) [] :=
  ⟨vec_new w, relab_new (Nat.le_refl _), fun k hk => by simp [Value.ownBlock] at hk⟩

/-- One bit more. -/
theorem AddL_any {W : World} {lab : Nat → Nat} {j b : Nat} {v : Value} {l : List Bool} (h : VecL W lab j b v l) (z : Int) (x : Bool) (hx : x = !(z == 0)) (hl : l.length < 900000000) :
    Calls Try.prog 35 #[.pointer (some ⟨b, 0, none⟩), .slice (some ⟨W.heap.size, 0, none⟩) 1 1] (W.alloc (.cells #[.int .i64 z] 3)) fun e w' =>
      e = .returned (.tuple #[]) ∧ ∃ v', VecL w' (relab lab W.heap.size j) j b v' (l ++ [x]) ∧ Keeps (fun x => lab x = j) W w' := by
  have hA := Add_any b v l (.slice (some ⟨W.heap.size, 0, none⟩) 1 1) [z] (W.alloc (.cells #[.int .i64 z] 3))
        (h.1.keeps ((Keeps.refl (fun _ => False) W).alloc _) (fun h => h) (fun _ _ h => h)) (Sl.one W .i64 z _) (by
          intro x hx
          simp only [Value.ownBlock, Option.some.injEq] at hx
          subst hx
          exact ⟨fun e => by have := h.1.lt; omega, fun e => by have := (h.1.apart _ e).2; omega⟩) (by simp; omega)
  refine hA.mono ?_
  rintro e w' ⟨rfl, v', h1, h2, h3⟩
  have hb : bitsOf [z] = [x] := by rw [hx]; rfl
  rw [hb] at h1
  refine ⟨rfl, v', ⟨h1, (relab_old h.1.lt).trans h.2.1, fun k hk => ?_⟩, ((Keeps.refl _ W).alloc _).trans h2 (fun x hx e => ?_)⟩
  · rcases h3 with h3 | ⟨k', h3, hk'⟩
    · rw [h3] at hk
      exact (relab_old (h.1.apart k hk).2).trans (h.2.2 k hk)
    · rw [h3] at hk; cases hk
      exact relab_new (by simp at hk'; omega)
  · rcases e with rfl | e
    · exact h.2.1
    · exact h.2.2 x e

/-- The rest of an index that is being made. -/
structure IxS (w0 : World) (lab : Nat → Nat) (bm : Nat) (cs : Array Value) (bi bp : Nat → Nat) (ks : List Nat) (s : Nat) (wr : World) : Prop where
  base : ∀ x, x < w0.heap.size → lab x = 0
  keeps : Keeps (fun _ => False) w0 wr
  blk : wr.heap[bm]? = some (.cells cs 126 (0, 0))
  lb : lab bm = 1
  idx : ∀ s', s' < s → IdxL wr lab (3 + s') (bi s') (isB s' ks)
  par : ∀ s', s' < s → ParL wr lab (5 + s') (bp s') (ownB s' ks)
  bal : ∀ s', s' < s → Bal (ownB s' ks)

theorem IxS.keepsL {w0 : World} {lab : Nat → Nat} {bm : Nat} {cs : Array Value} {bi bp : Nat → Nat} {ks : List Nat} {s : Nat} {wr w' : World} {G : Nat → Prop} (h : IxS w0 lab bm cs bi bp ks s wr)
    (k : Keeps G wr w') (hs : s ≤ 2) (hG : ∀ x, lab x ≤ 6 → lab x ≠ 2 → ¬ G x) (j : Nat) : IxS w0 (relab lab wr.heap.size j) bm cs bi bp ks s w' := by
  have hb := lt_of_block h.blk
  refine ⟨fun x hx => (relab_old (Nat.lt_of_lt_of_le hx h.keeps.size)).trans (h.base x hx), h.keeps.trans k (fun x hx e => hG x (by rw [h.base x hx]; omega) (by rw [h.base x hx]; omega) e), k.at h.blk (hG bm (by rw [h.lb]; omega) (by rw [h.lb]; omega)), (relab_old hb).trans h.lb,
    fun s' hs' => (h.idx s' hs').keepsL k (fun x hx => hG x (by omega) (by omega)) j, fun s' hs' => (h.par s' hs').keepsL k (fun x hx => hG x (by omega) (by omega)) j, h.bal⟩

end Go.Proofs.Ytlciacpffoekjaa
