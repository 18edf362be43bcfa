/- Worlds of which all blocks but some are as they were; plain lemmas, no program is named here. -/
import Derived.WalkKit
import Derived.Deep.AppendLies
import Derived.Lib.Hide
import Derived.Deep.QuietTactic
namespace Go.Proofs.Ytlciacpffoekjaa
open Go.RowKit

/-- Outside F the blocks of w' are as they were in w. -/
structure Keeps (F : Nat → Prop) (w w' : World) : Prop where
  os : w'.os = w.os
  tape : w'.tape = w.tape
  output : w'.output = w.output
  size : w.heap.size ≤ w'.heap.size
  block : ∀ k, k < w.heap.size → ¬ F k → w'.heap[k]? = w.heap[k]?

theorem Keeps.refl (F : Nat → Prop) (w : World) : Keeps F w w := ⟨rfl, rfl, rfl, Nat.le_refl _, fun _ _ _ => rfl⟩

theorem Keeps.trans {F G : Nat → Prop} {a b c : World} (h : Keeps F a b) (k : Keeps G b c) (hG : ∀ x, x < a.heap.size → G x → F x) : Keeps F a c :=
  ⟨k.os.trans h.os, k.tape.trans h.tape, k.output.trans h.output, Nat.le_trans h.size k.size,
    fun i hi hf => (k.block i (Nat.lt_of_lt_of_le hi h.size) (fun hg => hf (hG i hi hg))).trans (h.block i hi hf)⟩

theorem Keeps.mono {F G : Nat → Prop} {a b : World} (h : Keeps F a b) (hG : ∀ x, x < a.heap.size → F x → G x) : Keeps G a b :=
  ⟨h.os, h.tape, h.output, h.size, fun i hi hf => h.block i hi (fun hg => hf (hG i hi hg))⟩

theorem Keeps.drew {F : Nat → Prop} {a w : World} (h : Keeps F a w) : Keeps F a w.drew := ⟨h.os, h.tape, h.output, h.size, h.block⟩

theorem Keeps.alloc {F : Nat → Prop} {a w : World} (h : Keeps F a w) (o : Obj) : Keeps F a (w.alloc o) :=
  ⟨h.os, h.tape, h.output, Nat.le_trans h.size (by simp), fun k hk hf => (Below.heap_alloc w o k (Nat.lt_of_lt_of_le hk h.size)).trans (h.block k hk hf)⟩

theorem Keeps.setCell {F : Nat → Prop} {a w : World} (h : Keeps F a w) {p : Addr} (hp : F p.block ∨ a.heap.size ≤ p.block) (u : Value) : Keeps F a (w.setCell p u) :=
  ⟨h.os, h.tape, h.output, by simpa [World.setCell] using h.size, fun k hk hf => (Below.heap_setCell w p u k (by
    rintro rfl
    rcases hp with hp | hp
    · exact hf hp
    · omega)).trans (h.block k hk hf)⟩

theorem Keeps.grown {F : Nat → Prop} {a w w' : World} {row : Option Nat} (h : Keeps F a w) (hg : w.grownBy w' row) (hr : ∀ k, row = some k → F k ∨ a.heap.size ≤ k) : Keeps F a w' :=
  ⟨hg.os.trans h.os, hg.tape.trans h.tape, hg.output.trans h.output, Nat.le_trans h.size hg.size, fun k hk hf =>
    (hg.block k (Nat.lt_of_lt_of_le hk h.size) (fun e => by
      rcases hr k e.symm with h1 | h1
      · exact hf h1
      · omega)).trans (h.block k hk hf)⟩

theorem Keeps.below {F : Nat → Prop} {a w : World} (h : Keeps F a w) (hF : ∀ x, x < a.heap.size → ¬ F x) : Below a.heap.size a w :=
  ⟨h.os, h.tape, h.output, h.size, fun k hk => h.block k hk (hF k hk)⟩

theorem Keeps.of_below {a w : World} (h : Below a.heap.size a w) (F : Nat → Prop) : Keeps F a w :=
  ⟨h.os, h.tape, h.output, h.size, fun k hk _ => h.block k hk⟩

theorem Keeps.drewN {F : Nat → Prop} {a w : World} (h : Keeps F a w) (n : Nat) : Keeps F a (w.drewN n) := ⟨h.os, h.tape, h.output, h.size, h.block⟩

theorem Keeps.at {F : Nat → Prop} {a w : World} (h : Keeps F a w) {k : Nat} {o : Obj} (ho : a.heap[k]? = some o) (hf : ¬ F k) : w.heap[k]? = some o := by
  rw [h.block k (lt_of_block ho) hf]; exact ho

/-- A row that is owned stays owned where its block stays. -/
theorem Keeps.owns {F : Nat → Prop} {a w : World} (h : Keeps F a w) {base : Nat} {e : TypeId} {size : Nat} {v : Value} {n : Nat} {xs : List Value}
    (ho : a.ownsRow base e size v n xs) (hf : ∀ k, v.ownBlock = some k → ¬ F k) : w.ownsRow base e size v n xs := by
  obtain ⟨h1, h2⟩ := ho
  refine ⟨h1, ?_⟩
  rcases h2 with h2 | ⟨g, cap, cur, rfl, hb, hg, r⟩
  · exact .inl h2
  · exact .inr ⟨g, cap, cur, rfl, hb, h.at hg (hf g rfl), r⟩

theorem World.cell_of_heap {w : World} {b : Nat} {cs : Array Value} {t : TypeId} {fr : Nat × Nat} (h : w.heap[b]? = some (.cells cs t fr)) (i : Nat) : w.cell? ⟨b, i, none⟩ = cs[i]? := by
  simp [World.cell?, h]
theorem World.free_of_heap {w : World} {b : Nat} {cs : Array Value} {t : TypeId} (h : w.heap[b]? = some (.cells cs t (0, 0))) (i : Nat) : w.frozen? ⟨b, i, none⟩ = false := by
  simp [World.frozen?, h]

theorem heap_setCell_same {w : World} {b : Nat} {cs : Array Value} {t : TypeId} {fr : Nat × Nat} (h : w.heap[b]? = some (.cells cs t fr)) (i : Nat) (u : Value) :
    (w.setCell ⟨b, i, none⟩ u).heap[b]? = some (.cells (cs.setIfInBounds i u) t fr) := by
  simp [World.setCell, Array.getElem?_modify, h]

/-- What a value owns that owns something. -/
theorem owns_form {w : World} {base : Nat} {e : TypeId} {v : Value} {n : Nat} {xs : List Value} (h : w.ownsRow base e 1 v n xs) (hn : 0 < n) :
    ∃ g cap, v = .slice (some ⟨g, 0, none⟩) n cap ∧ n ≤ cap ∧ cap ≤ maxLen ∧ (∀ j u, xs[j]? = some u → w.cell? ⟨g, j, none⟩ = some u ∧ w.frozen? ⟨g, j, none⟩ = false) ∧ v.ownBlock = some g ∧ g < w.heap.size := by
  obtain ⟨hl, h2⟩ := h
  rcases h2 with ⟨_, h0⟩ | ⟨g, cap, cur, rfl, hb, hg, hnc, hcm, hcur, ht⟩
  · omega
  · refine ⟨g, cap, rfl, hnc, hcm, fun j u hj => ?_, rfl, lt_of_block hg⟩
    rw [World.cell_of_heap hg, World.free_of_heap hg]
    refine ⟨?_, rfl⟩
    rw [← ht] at hj
    rw [List.getElem?_take] at hj
    split at hj
    · simpa using hj
    · cases hj

/-- A store into an owned row. -/
theorem owns_set {w : World} {base : Nat} {e : TypeId} {g n cap : Nat} {xs : List Value} (h : w.ownsRow base e 1 (.slice (some ⟨g, 0, none⟩) n cap) n xs) (i : Nat) (u : Value) :
    (w.setCell ⟨g, i, none⟩ u).ownsRow base e 1 (.slice (some ⟨g, 0, none⟩) n cap) n (xs.set i u) := by
  obtain ⟨hl, h2⟩ := h
  refine ⟨by simpa using hl, ?_⟩
  rcases h2 with ⟨h0, _⟩ | ⟨g', cap', cur, hv, hb, hg, hnc, hcm, hcur, ht⟩
  · cases h0
  · simp only [Value.slice.injEq, Option.some.injEq, Addr.mk.injEq] at hv
    obtain ⟨⟨rfl, _⟩, _, rfl⟩ := hv
    refine .inr ⟨g, cap, cur.setIfInBounds i u, rfl, hb, heap_setCell_same hg i u, hnc, hcm, by simpa using hcur, ?_⟩
    rw [Array.toList_setIfInBounds, ← ht]
    apply List.ext_getElem?
    intro k
    simp only [List.getElem?_take, List.getElem?_set, List.length_take]
    by_cases hk : k < n * 1
    · simp only [if_pos hk]
      by_cases hik : i = k
      · subst hik
        have : (i < min (n * 1) cur.toList.length) = (i < cur.toList.length) := by rw [Nat.lt_min]; simp; omega
        simp only [if_true, this]
      · simp [hik]
    · simp only [if_neg hk]
      by_cases hik : i = k
      · subst hik
        rw [if_pos rfl, if_neg (by omega)]
      · simp [hik]

/-- A slice value that reads as the numbers zs (nil or not). -/
def Sl (k : IntKind) (w : World) (v : Value) (zs : List Int) : Prop :=
  ∃ a cap, v = .slice a zs.length cap ∧ zs.length ≤ cap ∧ cap ≤ 9223372036854775807 ∧ (a = none → cap = 0) ∧ ∀ j z, zs[j]? = some z → ∃ g off, a = some ⟨g, off, none⟩ ∧ w.cell? ⟨g, off + j, none⟩ = some (.int k z)

theorem Sl.keeps {k : IntKind} {w w' : World} {v : Value} {zs : List Int} {F : Nat → Prop} (h : Sl k w v zs) (hk : Keeps F w w') (hf : ∀ b, v.ownBlock = some b → ¬ F b) : Sl k w' v zs := by
  obtain ⟨a, cap, rfl, h1, h2, hn, h3⟩ := h
  refine ⟨a, cap, rfl, h1, h2, hn, fun j z hj => ?_⟩
  obtain ⟨g, off, rfl, hc⟩ := h3 j z hj
  refine ⟨g, off, rfl, ?_⟩
  rw [World.cell?_of_block (w := w) (hk.block g (World.block_lt_of_cell? _ _ hc) (hf g rfl))]
  exact hc

theorem Sl.of_owns {k : IntKind} {w : World} {base : Nat} {e : TypeId} {v : Value} {n : Nat} {zs : List Int} (h : w.ownsRow base e 1 v n (zs.map fun z => Value.int k z)) : Sl k w v zs := by
  have hn : n = zs.length := by have := h.1; simp at this; exact this.symm
  subst hn
  by_cases h0 : 0 < zs.length
  · obtain ⟨g, cap, rfl, h1, h2, hc, _, _⟩ := owns_form h h0
    refine ⟨_, cap, rfl, h1, by unfold maxLen at h2; omega, (fun h => by cases h), fun j z hj => ⟨g, 0, rfl, ?_⟩⟩
    rw [Nat.zero_add]
    exact (hc j (.int k z) (by rw [List.getElem?_map, hj]; rfl)).1
  · have hz : zs = [] := by cases zs <;> simp_all
    subst hz
    obtain ⟨_, h2⟩ := h
    rcases h2 with ⟨rfl, _⟩ | ⟨g, cap, cur, rfl, hb, hg, hnc, hcm, _⟩
    · exact ⟨none, 0, rfl, by simp, by decide, fun _ => rfl, fun j z hj => by simp at hj⟩
    · exact ⟨_, cap, rfl, by simp, by unfold maxLen at hcm; omega, (fun h => by cases h), fun j z hj => by simp at hj⟩

/-- A row of numbers that came in, as the frame of a statement's proof tells it. -/
def RowIn (k : IntKind) (w : World) (a : Option Addr) (len cap : Nat) (zs : List Int) : Prop :=
  (a = none ∧ len = 0 ∧ cap = 0 ∧ zs = []) ∨
  ∃ x, a = some x ∧ len ≤ cap ∧ cap ≤ maxLen ∧ zs.length = cap ∧ (∀ i, i < zs.length → w.cell? (x.add i) = some (.int k (zs.getD i 0))) ∧ ∀ n ∈ zs, (Lit.int k n).wf = true

theorem cell_plain {w : World} {x : Addr} {v : Value} (h : w.cell? x = some v) : x = ⟨x.block, x.off, none⟩ := by
  have hs : x.spot = none := by
    unfold World.cell? at h
    split at h
    · split at h
      · cases h
      · rename_i hsp
        simpa using hsp
    · cases h
  cases x
  simp_all

theorem RowIn.sl {k : IntKind} {w : World} {a : Option Addr} {len cap : Nat} {zs : List Int} (h : RowIn k w a len cap zs) :
    Sl k w (.slice a len cap) (zs.take len) ∧ (zs.take len).length = len ∧ (∀ n ∈ zs.take len, (Lit.int k n).wf = true) ∧ ∀ b, (Value.slice a len cap).ownBlock = some b → zs.take len ≠ [] → b < w.heap.size := by
  rcases h with ⟨rfl, rfl, rfl, rfl⟩ | ⟨x, rfl, h1, h2, h3, h4, h5⟩
  · exact ⟨⟨none, 0, rfl, by simp, by decide, fun _ => rfl, fun j z hj => by simp at hj⟩, rfl, fun n hn => by simp at hn, fun b _ hz => absurd rfl hz⟩
  · have hl : (zs.take len).length = len := by simp; omega
    have hcell : ∀ j, j < len → w.cell? ⟨x.block, x.off + j, none⟩ = some (.int k (zs.getD j 0)) := by
      intro j hj
      have h0 := cell_plain (h4 0 (by omega))
      have e0 : x.add 0 = x := by simp [Addr.add]
      rw [e0] at h0
      have hadd : x.add j = ⟨x.block, x.off + j, none⟩ := by
        unfold Addr.add
        split
        · rename_i hj0
          subst hj0
          exact h0
        · rfl
      rw [← hadd]
      exact h4 j (by omega)
    refine ⟨⟨some x, cap, by rw [hl], by omega, by unfold maxLen at h2; omega, (fun h => by cases h), fun j z hj => ?_⟩, hl, fun n hn => h5 n (List.mem_of_mem_take hn), fun b hb hz => ?_⟩
    · have hj' : j < len := by
        rcases Nat.lt_or_ge j len with h | h
        · exact h
        · rw [List.getElem?_eq_none (by omega)] at hj; cases hj
      rw [List.getElem?_take, if_pos hj'] at hj
      have hx := cell_plain (h4 0 (by omega))
      have e0 : x.add 0 = x := by simp [Addr.add]
      rw [e0] at hx
      refine ⟨x.block, x.off, congrArg some hx, ?_⟩
      rw [hcell j hj', List.getD_eq_getElem?_getD, hj]
      rfl
    · simp only [Value.ownBlock, Option.some.injEq] at hb
      subst hb
      have hp : 0 < len := by
        rcases Nat.eq_zero_or_pos len with h | h
        · subst h; simp at hz
        · exact h
      exact World.block_lt_of_cell? w ⟨x.block, x.off + 0, none⟩ (hcell 0 hp)

end Go.Proofs.Ytlciacpffoekjaa
