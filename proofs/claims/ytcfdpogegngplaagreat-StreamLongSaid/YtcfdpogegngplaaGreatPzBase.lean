/- Joined texts: Pure, Pop, Mem, Bits, Bits2, Ones, Once, Ints, Few. -/
import Derived.RowKit
import Derived.WalkKit
import Derived.Deep.AppendLies
import Derived.Lib.Hide
import Derived.Deep.QuietTactic
import Derived.Test.YtcfdpogegngplaaGreatProg
import Derived.WalkSpells
import Derived.WalkLawsBesides
import Derived.BigQuiet
import Derived.Deep.LoopGhost
import Derived.Defers
import Derived.Laws.LoneSync
import Derived.RegionCalls
import Derived.Laws.AppendOwnNone
/- Plain arithmetic of bits in words: no program is named here. -/
namespace Go.Proofs.YtcfdpogegngplaaGreat

/-- Bits as a number, the first one the lowest. -/
def bval : List Bool → Nat
  | [] => 0
  | b :: l => b.toNat + 2 * bval l

theorem bval_lt (l : List Bool) : bval l < 2 ^ l.length := by
  induction l with
  | nil => simp [bval]
  | cons b l ih => simp only [bval, List.length_cons, Nat.pow_succ]; cases b <;> simp <;> omega

theorem bval_snoc (l : List Bool) (b : Bool) : bval (l ++ [b]) = bval l + b.toNat * 2 ^ l.length := by
  induction l with
  | nil => simp [bval]
  | cons c l ih =>
    simp only [List.cons_append, bval, ih, List.length_cons, Nat.pow_succ, Nat.mul_add]
    have : b.toNat * (2 ^ l.length * 2) = 2 * (b.toNat * 2 ^ l.length) := by rw [← Nat.mul_assoc, Nat.mul_comm]
    omega

theorem bval_bit (l : List Bool) (i : Nat) : bval l / 2 ^ i % 2 = (l.getD i false).toNat := by
  induction l generalizing i with
  | nil => simp [bval]
  | cons b l ih =>
    cases i with
    | zero => simp only [bval, Nat.pow_zero, Nat.div_one, List.getD_cons_zero]; cases b <;> simp <;> omega
    | succ i =>
      simp only [bval, List.getD_cons_succ]
      rw [← ih i, Nat.pow_succ, Nat.mul_comm (2 ^ i) 2, ← Nat.div_div_eq_div_mul]
      congr 2
      cases b <;> simp <;> omega

/-- The k-th word of bits. -/
def wordAt (l : List Bool) (k : Nat) : Nat := bval ((l.drop (64 * k)).take 64)
def words (l : List Bool) : List Nat := (List.range ((l.length + 63) / 64)).map (wordAt l)

theorem words_length (l : List Bool) : (words l).length = (l.length + 63) / 64 := by simp [words]

theorem words_get {l : List Bool} {k : Nat} (h : k < (l.length + 63) / 64) : (words l)[k]? = some (wordAt l k) := by
  simp [words, h]

theorem wordAt_lt (l : List Bool) (k : Nat) : wordAt l k < 18446744073709551616 := by
  have h := bval_lt ((l.drop (64 * k)).take 64)
  have h2 : ((l.drop (64 * k)).take 64).length ≤ 64 := List.length_take_le _ _
  have h3 : 2 ^ ((l.drop (64 * k)).take 64).length ≤ 2 ^ 64 := Nat.pow_le_pow_right (by decide) h2
  unfold wordAt
  omega

theorem wordAt_bit (l : List Bool) (i : Nat) : wordAt l (i / 64) / 2 ^ (i % 64) % 2 = (l.getD i false).toNat := by
  unfold wordAt
  rw [bval_bit]
  simp only [List.getD_eq_getElem?_getD, List.getElem?_take, List.getElem?_drop]
  rw [if_pos (Nat.mod_lt _ (by decide)), show 64 * (i / 64) + i % 64 = i by omega]

theorem wordAt_small {l : List Bool} (r : Nat) (hr : r = l.length % 64) : wordAt l (l.length / 64) < 2 ^ r := by
  have h := bval_lt ((l.drop (64 * (l.length / 64))).take 64)
  have h2 : ((l.drop (64 * (l.length / 64))).take 64).length = r := by simp; omega
  rw [h2] at h
  exact h

theorem wordAt_snoc_lt (l : List Bool) (b : Bool) {k : Nat} (h : k < l.length / 64) : wordAt (l ++ [b]) k = wordAt l k := by
  unfold wordAt
  congr 1
  rw [List.drop_append_of_le_length (by omega), List.take_append_of_le_length (by simp; omega)]

theorem wordAt_snoc (l : List Bool) (b : Bool) : wordAt (l ++ [b]) (l.length / 64) = wordAt l (l.length / 64) + b.toNat * 2 ^ (l.length % 64) := by
  unfold wordAt
  rw [List.drop_append_of_le_length (by omega), List.take_of_length_le (by simp; omega), bval_snoc, List.take_of_length_le (by simp; omega)]
  congr 3
  simp; omega

/-- What 'add' lays ahead: a word more where the words are full. -/
def padded (l : List Bool) : List Nat := if l.length % 64 = 0 then words l ++ [0] else words l

theorem padded_length (l : List Bool) : (padded l).length = l.length / 64 + 1 := by
  unfold padded
  split <;> simp [words_length] <;> omega

theorem padded_get (l : List Bool) : (padded l)[l.length / 64]? = some (wordAt l (l.length / 64)) := by
  unfold padded
  split
  · rename_i h
    rw [List.getElem?_append_right (by rw [words_length]; omega), words_length, show l.length / 64 - (l.length + 63) / 64 = 0 by omega]
    have := wordAt_small (l := l) 0 h.symm
    simp at this
    simp [this]
  · exact words_get (by omega)

theorem or_small {x r : Nat} (hx : x < 2 ^ r) (b : Bool) : x ||| (b.toNat * 2 ^ r) = x + b.toNat * 2 ^ r := by
  have h := Nat.two_pow_add_eq_or_of_lt hx b.toNat
  rw [Nat.mul_comm, Nat.or_comm, ← h, Nat.add_comm]

theorem words_snoc (l : List Bool) (b : Bool) : words (l ++ [b]) = (padded l).set (l.length / 64) (wordAt l (l.length / 64) ||| (b.toNat * 2 ^ (l.length % 64))) := by
  rw [or_small (wordAt_small _ rfl), ← wordAt_snoc]
  apply List.ext_getElem?
  intro k
  rw [List.getElem?_set]
  have hn : (l ++ [b]).length = l.length + 1 := by simp
  by_cases hk : l.length / 64 = k
  · subst hk
    rw [if_pos rfl, if_pos (by rw [padded_length]; omega)]
    exact words_get (by rw [hn]; omega)
  · rw [if_neg hk]
    by_cases hlt : k < l.length / 64
    · rw [words_get (by rw [hn]; omega), wordAt_snoc_lt l b hlt]
      unfold padded
      split
      · rw [List.getElem?_append_left (by rw [words_length]; omega), words_get (by omega)]
      · rw [words_get (by omega)]
    · rw [List.getElem?_eq_none (by rw [words_length, hn]; omega), List.getElem?_eq_none (by rw [padded_length]; omega)]

end Go.Proofs.YtcfdpogegngplaaGreat

/- The count of ones of a word, as math/bits reckons it: plain arithmetic, no program is named. -/
namespace Go.Proofs.YtcfdpogegngplaaGreat

def st1 (m x : Nat) : Nat := ((x / 2) &&& m) + (x &&& m)
def st2 (m x : Nat) : Nat := ((x / 4) &&& m) + (x &&& m)
def st3 (m x : Nat) : Nat := (x / 16 + x) &&& m

/-- How many are set. -/
def cnt : List Bool → Nat
  | [] => 0
  | b :: l => b.toNat + cnt l

theorem cnt_append (a b : List Bool) : cnt (a ++ b) = cnt a + cnt b := by
  induction a with
  | nil => simp [cnt]
  | cons x l ih => simp only [List.cons_append, cnt, ih]; omega

end Go.Proofs.YtcfdpogegngplaaGreat

/- Worlds of which all blocks but some are as they were; plain lemmas, no program is named here. -/
namespace Go.Proofs.YtcfdpogegngplaaGreat
open Go.RowKit

/-- Outside F the blocks of w' are as they were in w. -/
structure Keeps (F : Nat → Prop) (w w' : World) : Prop where
  os : w'.os = w.os
  tape : w'.tape = w.tape
  output : w'.output = w.output
  size : w.heap.size ≤ w'.heap.size
  block : ∀ k, k < w.heap.size → ¬ F k → w'.heap[k]? = w.heap[k]?

theorem Keeps.refl (F : Nat → Prop) (w : World) : Keeps F w w := ⟨rfl, rfl, rfl, Nat.le_refl _, fun _ _ _ => rfl⟩

theorem Keeps.trans {F G : Nat → Prop} {a b c : World} (h : Keeps F a b) (k : Keeps G b c) (hG : ∀ x, x < a.heap.size → G x → F x) : Keeps F a c :=
  ⟨k.os.trans h.os, k.tape.trans h.tape, k.output.trans h.output, Nat.le_trans h.size k.size,
    fun i hi hf => (k.block i (Nat.lt_of_lt_of_le hi h.size) (fun hg => hf (hG i hi hg))).trans (h.block i hi hf)⟩

theorem Keeps.mono {F G : Nat → Prop} {a b : World} (h : Keeps F a b) (hG : ∀ x, x < a.heap.size → F x → G x) : Keeps G a b :=
  ⟨h.os, h.tape, h.output, h.size, fun i hi hf => h.block i hi (fun hg => hf (hG i hi hg))⟩

theorem Keeps.drew {F : Nat → Prop} {a w : World} (h : Keeps F a w) : Keeps F a w.drew := ⟨h.os, h.tape, h.output, h.size, h.block⟩

theorem Keeps.alloc {F : Nat → Prop} {a w : World} (h : Keeps F a w) (o : Obj) : Keeps F a (w.alloc o) :=
  ⟨h.os, h.tape, h.output, Nat.le_trans h.size (by simp), fun k hk hf => (Below.heap_alloc w o k (Nat.lt_of_lt_of_le hk h.size)).trans (h.block k hk hf)⟩

theorem Keeps.setCell {F : Nat → Prop} {a w : World} (h : Keeps F a w) {p : Addr} (hp : F p.block ∨ a.heap.size ≤ p.block) (u : Value) : Keeps F a (w.setCell p u) :=
  ⟨h.os, h.tape, h.output, by simpa [World.setCell] using h.size, fun k hk hf => (Below.heap_setCell w p u k (by
    rintro rfl
    rcases hp with hp | hp
    · exact hf hp
    · omega)).trans (h.block k hk hf)⟩

theorem Keeps.grown {F : Nat → Prop} {a w w' : World} {row : Option Nat} (h : Keeps F a w) (hg : w.grownBy w' row) (hr : ∀ k, row = some k → F k ∨ a.heap.size ≤ k) : Keeps F a w' :=
  ⟨hg.os.trans h.os, hg.tape.trans h.tape, hg.output.trans h.output, Nat.le_trans h.size hg.size, fun k hk hf =>
    (hg.block k (Nat.lt_of_lt_of_le hk h.size) (fun e => by
      rcases hr k e.symm with h1 | h1
      · exact hf h1
      · omega)).trans (h.block k hk hf)⟩

theorem Keeps.below {F : Nat → Prop} {a w : World} (h : Keeps F a w) (hF : ∀ x, x < a.heap.size → ¬ F x) : Below a.heap.size a w :=
  ⟨h.os, h.tape, h.output, h.size, fun k hk => h.block k hk (hF k hk)⟩

theorem Keeps.of_below {a w : World} (h : Below a.heap.size a w) (F : Nat → Prop) : Keeps F a w :=
  ⟨h.os, h.tape, h.output, h.size, fun k hk _ => h.block k hk⟩

theorem Keeps.drewN {F : Nat → Prop} {a w : World} (h : Keeps F a w) (n : Nat) : Keeps F a (w.drewN n) := ⟨h.os, h.tape, h.output, h.size, h.block⟩

theorem Keeps.at {F : Nat → Prop} {a w : World} (h : Keeps F a w) {k : Nat} {o : Obj} (ho : a.heap[k]? = some o) (hf : ¬ F k) : w.heap[k]? = some o := by
  rw [h.block k (lt_of_block ho) hf]; exact ho

/-- A row that is owned stays owned where its block stays. -/
theorem Keeps.owns {F : Nat → Prop} {a w : World} (h : Keeps F a w) {base : Nat} {e : TypeId} {size : Nat} {v : Value} {n : Nat} {xs : List Value}
    (ho : a.ownsRow base e size v n xs) (hf : ∀ k, v.ownBlock = some k → ¬ F k) : w.ownsRow base e size v n xs := by
  obtain ⟨h1, h2⟩ := ho
  refine ⟨h1, ?_⟩
  rcases h2 with h2 | ⟨g, cap, cur, rfl, hb, hg, r⟩
  · exact .inl h2
  · exact .inr ⟨g, cap, cur, rfl, hb, h.at hg (hf g rfl), r⟩

theorem World.cell_of_heap {w : World} {b : Nat} {cs : Array Value} {t : TypeId} {fr : Nat × Nat} (h : w.heap[b]? = some (.cells cs t fr)) (i : Nat) : w.cell? ⟨b, i, none⟩ = cs[i]? := by
  simp [World.cell?, h]
theorem World.free_of_heap {w : World} {b : Nat} {cs : Array Value} {t : TypeId} (h : w.heap[b]? = some (.cells cs t (0, 0))) (i : Nat) : w.frozen? ⟨b, i, none⟩ = false := by
  simp [World.frozen?, h]

theorem heap_setCell_same {w : World} {b : Nat} {cs : Array Value} {t : TypeId} {fr : Nat × Nat} (h : w.heap[b]? = some (.cells cs t fr)) (i : Nat) (u : Value) :
    (w.setCell ⟨b, i, none⟩ u).heap[b]? = some (.cells (cs.setIfInBounds i u) t fr) := by
  simp [World.setCell, Array.getElem?_modify, h]

/-- What a value owns that owns something. -/
theorem owns_form {w : World} {base : Nat} {e : TypeId} {v : Value} {n : Nat} {xs : List Value} (h : w.ownsRow base e 1 v n xs) (hn : 0 < n) :
    ∃ g cap, v = .slice (some ⟨g, 0, none⟩) n cap ∧ n ≤ cap ∧ cap ≤ maxLen ∧ (∀ j u, xs[j]? = some u → w.cell? ⟨g, j, none⟩ = some u ∧ w.frozen? ⟨g, j, none⟩ = false) ∧ v.ownBlock = some g ∧ g < w.heap.size := by
  obtain ⟨hl, h2⟩ := h
  rcases h2 with ⟨_, h0⟩ | ⟨g, cap, cur, rfl, hb, hg, hnc, hcm, hcur, ht⟩
  · omega
  · refine ⟨g, cap, rfl, hnc, hcm, fun j u hj => ?_, rfl, lt_of_block hg⟩
    rw [World.cell_of_heap hg, World.free_of_heap hg]
    refine ⟨?_, rfl⟩
    rw [← ht] at hj
    rw [List.getElem?_take] at hj
    split at hj
    · simpa using hj
    · cases hj

/-- A store into an owned row. -/
theorem owns_set {w : World} {base : Nat} {e : TypeId} {g n cap : Nat} {xs : List Value} (h : w.ownsRow base e 1 (.slice (some ⟨g, 0, none⟩) n cap) n xs) (i : Nat) (u : Value) :
    (w.setCell ⟨g, i, none⟩ u).ownsRow base e 1 (.slice (some ⟨g, 0, none⟩) n cap) n (xs.set i u) := by
  obtain ⟨hl, h2⟩ := h
  refine ⟨by simpa using hl, ?_⟩
  rcases h2 with ⟨h0, _⟩ | ⟨g', cap', cur, hv, hb, hg, hnc, hcm, hcur, ht⟩
  · cases h0
  · simp only [Value.slice.injEq, Option.some.injEq, Addr.mk.injEq] at hv
    obtain ⟨⟨rfl, _⟩, _, rfl⟩ := hv
    refine .inr ⟨g, cap, cur.setIfInBounds i u, rfl, hb, heap_setCell_same hg i u, hnc, hcm, by simpa using hcur, ?_⟩
    rw [Array.toList_setIfInBounds, ← ht]
    apply List.ext_getElem?
    intro k
    simp only [List.getElem?_take, List.getElem?_set, List.length_take]
    by_cases hk : k < n * 1
    · simp only [if_pos hk]
      by_cases hik : i = k
      · subst hik
        have : (i < min (n * 1) cur.toList.length) = (i < cur.toList.length) := by rw [Nat.lt_min]; simp; omega
        simp only [if_true, this]
      · simp [hik]
    · simp only [if_neg hk]
      by_cases hik : i = k
      · subst hik
        rw [if_pos rfl, if_neg (by omega)]
      · simp [hik]

/-- A slice value that reads as the numbers zs (nil or not). -/
def Sl (k : IntKind) (w : World) (v : Value) (zs : List Int) : Prop :=
  ∃ a cap, v = .slice a zs.length cap ∧ zs.length ≤ cap ∧ cap ≤ 9223372036854775807 ∧ (a = none → cap = 0) ∧ ∀ j z, zs[j]? = some z → ∃ g off, a = some ⟨g, off, none⟩ ∧ w.cell? ⟨g, off + j, none⟩ = some (.int k z)

theorem Sl.keeps {k : IntKind} {w w' : World} {v : Value} {zs : List Int} {F : Nat → Prop} (h : Sl k w v zs) (hk : Keeps F w w') (hf : ∀ b, v.ownBlock = some b → ¬ F b) : Sl k w' v zs := by
  obtain ⟨a, cap, rfl, h1, h2, hn, h3⟩ := h
  refine ⟨a, cap, rfl, h1, h2, hn, fun j z hj => ?_⟩
  obtain ⟨g, off, rfl, hc⟩ := h3 j z hj
  refine ⟨g, off, rfl, ?_⟩
  rw [World.cell?_of_block (w := w) (hk.block g (World.block_lt_of_cell? _ _ hc) (hf g rfl))]
  exact hc

theorem Sl.of_owns {k : IntKind} {w : World} {base : Nat} {e : TypeId} {v : Value} {n : Nat} {zs : List Int} (h : w.ownsRow base e 1 v n (zs.map fun z => Value.int k z)) : Sl k w v zs := by
  have hn : n = zs.length := by have := h.1; simp at this; exact this.symm
  subst hn
  by_cases h0 : 0 < zs.length
  · obtain ⟨g, cap, rfl, h1, h2, hc, _, _⟩ := owns_form h h0
    refine ⟨_, cap, rfl, h1, by unfold maxLen at h2; omega, (fun h => by cases h), fun j z hj => ⟨g, 0, rfl, ?_⟩⟩
    rw [Nat.zero_add]
    exact (hc j (.int k z) (by rw [List.getElem?_map, hj]; rfl)).1
  · have hz : zs = [] := by cases zs <;> simp_all
    subst hz
    obtain ⟨_, h2⟩ := h
    rcases h2 with ⟨rfl, _⟩ | ⟨g, cap, cur, rfl, hb, hg, hnc, hcm, _⟩
    · exact ⟨none, 0, rfl, by simp, by decide, fun _ => rfl, fun j z hj => by simp at hj⟩
    · exact ⟨_, cap, rfl, by simp, by unfold maxLen at hcm; omega, (fun h => by cases h), fun j z hj => by simp at hj⟩

/-- A row of numbers that came in, as the frame of a statement's proof tells it. -/
def RowIn (k : IntKind) (w : World) (a : Option Addr) (len cap : Nat) (zs : List Int) : Prop :=
  (a = none ∧ len = 0 ∧ cap = 0 ∧ zs = []) ∨
  ∃ x, a = some x ∧ len ≤ cap ∧ cap ≤ maxLen ∧ zs.length = cap ∧ (∀ i, i < zs.length → w.cell? (x.add i) = some (.int k (zs.getD i 0))) ∧ ∀ n ∈ zs, (Lit.int k n).wf = true

theorem cell_plain {w : World} {x : Addr} {v : Value} (h : w.cell? x = some v) : x = ⟨x.block, x.off, none⟩ := by
  have hs : x.spot = none := by
    unfold World.cell? at h
    split at h
    · split at h
      · cases h
      · rename_i hsp
        simpa using hsp
    · cases h
  cases x
  simp_all

theorem RowIn.sl {k : IntKind} {w : World} {a : Option Addr} {len cap : Nat} {zs : List Int} (h : RowIn k w a len cap zs) :
    Sl k w (.slice a len cap) (zs.take len) ∧ (zs.take len).length = len ∧ (∀ n ∈ zs.take len, (Lit.int k n).wf = true) ∧ ∀ b, (Value.slice a len cap).ownBlock = some b → zs.take len ≠ [] → b < w.heap.size := by
  rcases h with ⟨rfl, rfl, rfl, rfl⟩ | ⟨x, rfl, h1, h2, h3, h4, h5⟩
  · exact ⟨⟨none, 0, rfl, by simp, by decide, fun _ => rfl, fun j z hj => by simp at hj⟩, rfl, fun n hn => by simp at hn, fun b _ hz => absurd rfl hz⟩
  · have hl : (zs.take len).length = len := by simp; omega
    have hcell : ∀ j, j < len → w.cell? ⟨x.block, x.off + j, none⟩ = some (.int k (zs.getD j 0)) := by
      intro j hj
      have h0 := cell_plain (h4 0 (by omega))
      have e0 : x.add 0 = x := by simp [Addr.add]
      rw [e0] at h0
      have hadd : x.add j = ⟨x.block, x.off + j, none⟩ := by
        unfold Addr.add
        split
        · rename_i hj0
          subst hj0
          exact h0
        · rfl
      rw [← hadd]
      exact h4 j (by omega)
    refine ⟨⟨some x, cap, by rw [hl], by omega, by unfold maxLen at h2; omega, (fun h => by cases h), fun j z hj => ?_⟩, hl, fun n hn => h5 n (List.mem_of_mem_take hn), fun b hb hz => ?_⟩
    · have hj' : j < len := by
        rcases Nat.lt_or_ge j len with h | h
        · exact h
        · rw [List.getElem?_eq_none (by omega)] at hj; cases hj
      rw [List.getElem?_take, if_pos hj'] at hj
      have hx := cell_plain (h4 0 (by omega))
      have e0 : x.add 0 = x := by simp [Addr.add]
      rw [e0] at hx
      refine ⟨x.block, x.off, congrArg some hx, ?_⟩
      rw [hcell j hj', List.getD_eq_getElem?_getD, hj]
      rfl
    · simp only [Value.ownBlock, Option.some.injEq] at hb
      subst hb
      have hp : 0 < len := by
        rcases Nat.eq_zero_or_pos len with h | h
        · subst h; simp at hz
        · exact h
      exact World.block_lt_of_cell? w ⟨x.block, x.off + 0, none⟩ (hcell 0 hp)

end Go.Proofs.YtcfdpogegngplaaGreat

/- The contracts of package bits: the vector. -/
namespace Go.Proofs.YtcfdpogegngplaaGreat
open Go.RowKit

theorem infoU64 : (Tryz.prog.info? 94).map (fun i => (i.zero, i.size, i.bytes)) = some (some (.int .u64 0), 1, 8) := by kernel_rfl

/-- The block of a vector, and its words. -/
def VecAt (w : World) (b : Nat) (v : Value) (l : List Bool) : Prop :=
  w.heap[b]? = some (.cells #[v, .int .i64 l.length] 203 (0, 0)) ∧ w.ownsRow 0 94 1 v (words l).length ((words l).map fun x : Nat => Value.int .u64 x)

theorem VecAt.lt {w : World} {b : Nat} {v : Value} {l : List Bool} (h : VecAt w b v l) : b < w.heap.size := lt_of_block h.1

theorem VecAt.apart {w : World} {b : Nat} {v : Value} {l : List Bool} (h : VecAt w b v l) : ∀ k, v.ownBlock = some k → k ≠ b ∧ k < w.heap.size := by
  intro k hk
  obtain ⟨h1, _, h2⟩ := h
  rcases h2 with ⟨rfl, _⟩ | ⟨g, cap, cur, rfl, _, hg, _⟩
  · simp [Value.ownBlock] at hk
  · simp only [Value.ownBlock, Option.some.injEq] at hk
    subst hk
    refine ⟨?_, lt_of_block hg⟩
    rintro rfl
    rw [h1] at hg
    simp at hg

theorem VecAt.keeps {w w' : World} {F : Nat → Prop} {b : Nat} {v : Value} {l : List Bool} (h : VecAt w b v l) (k : Keeps F w w') (hb : ¬ F b) (hv : ∀ k, v.ownBlock = some k → ¬ F k) : VecAt w' b v l :=
  ⟨k.at h.1 hb, k.owns h.2 hv⟩

theorem vec_new (w : World) : VecAt (w.alloc (.cells #[.slice none 0 0, .int .i64 0] 203)) w.heap.size (.slice none 0 0) [] :=
  ⟨heap_alloc_new w _, World.ownsRow_nil _ _ _ _⟩

set_option maxHeartbeats 400000 in
theorem len_any (b : Nat) (v : Value) (l : List Bool) (w : World) (h : VecAt w b v l) :
    Calls Tryz.prog 99 #[.pointer (some ⟨b, 0, none⟩)] w fun e w' => e = .returned (.int .i64 l.length) ∧ w = w' := by
  have h1 : w.cell? ⟨b, 1, none⟩ = some (.int .i64 l.length) := World.cell_of_heap h.1 1
  clear h
  go_enter Tryz.func99, Tryz.ntmps99
  go_wp2
  go_ret
  exact ⟨rfl, rfl⟩

theorem ret_int {k : IntKind} {a b : Int} (h : a = b) : Ending.returned (.int k a) = .returned (.int k b) := by rw [h]

/-- What At answers. -/
def atZ (l : List Bool) (i : Int) : Int := if 0 ≤ i ∧ i < l.length then (l.getD i.toNat false).toNat else -1

theorem and_one (x : Nat) (hx : x < 18446744073709551616) : wrap64 (bits BinOp.and IntKind.u64 (x : Int) 1) = ((x % 2 : Nat) : Int) := by
  have h := bits_and_u64_nat x 1 hx (by omega)
  rw [show ((1 : Nat) : Int) = 1 from rfl] at h
  rw [h, Nat.and_one_is_mod]
  exact IntWalk.wrap64_in _ ⟨by omega, by omega⟩

set_option maxHeartbeats 400000 in
theorem at_in (b : Nat) (v : Value) (l : List Bool) (i : Nat) (w : World) (h : VecAt w b v l) (hi : i < l.length) (hl : l.length ≤ 1000000000) :
    Calls Tryz.prog 195 #[.pointer (some ⟨b, 0, none⟩), .int .i64 i] w fun e w' => e = .returned (.int .i64 (l.getD i false).toNat) ∧ w = w' := by
  have hm : i / 64 < (words l).length := by rw [words_length]; omega
  have hml : (words l).length ≤ 1000000000 := by rw [words_length]; omega
  obtain ⟨g, cap, rfl, hnc, hcm, hc, _, _⟩ := owns_form h.2 (by omega)
  have hx := (hc (i / 64) (.int .u64 (wordAt l (i / 64) : Nat)) (by rw [List.getElem?_map, words_get (by rw [words_length] at hm; exact hm)]; rfl)).1
  clear hc
  have h1 : w.cell? ⟨b, 1, none⟩ = some (.int .i64 l.length) := World.cell_of_heap h.1 1
  have h0 : w.cell? ⟨b, 0, none⟩ = some (.slice (some ⟨g, 0, none⟩) (words l).length cap) := World.cell_of_heap h.1 0
  unfold maxLen at hcm
  have H : Hid _ := h
  have hlen := len_any b _ l w h
  clear h
  have hlt := wordAt_lt l (i / 64)
  have hbit := wordAt_bit l i
  generalize wordAt l (i / 64) = x at hx hlt hbit
  have Hbit := Lib.hid hbit
  clear hbit
  generalize (words l).length = m at *
  generalize l.length = n at *
  go_enter Tryz.func195, Tryz.ntmps195
  go_wp2_with (go_at_call 99; refine hlen.mono ?_; rintro e w' ⟨rfl, rfl⟩)
  go_ret
  have e1 : (x : Int) / 2 ^ (i % 64) = ((x / 2 ^ (i % 64) : Nat) : Int) := by simp
  have hle : x / 2 ^ (i % 64) ≤ x := Nat.div_le_self _ _
  exact ⟨ret_int (by rw [e1, and_one _ (Nat.lt_of_le_of_lt hle hlt), Hbit.out]), rfl⟩

set_option maxHeartbeats 400000 in
theorem at_out (b : Nat) (v : Value) (l : List Bool) (i : Int) (w : World) (h : VecAt w b v l) (hi : ¬ (0 ≤ i ∧ i < l.length)) :
    Calls Tryz.prog 195 #[.pointer (some ⟨b, 0, none⟩), .int .i64 i] w fun e w' => e = .returned (.int .i64 (-1)) ∧ w = w' := by
  have hlen := len_any b _ l w h
  clear h
  generalize l.length = n at *
  by_cases h0 : i < 0
  · go_enter Tryz.func195, Tryz.ntmps195
    go_wp2_with (go_at_call 99; refine hlen.mono ?_; rintro e w' ⟨rfl, rfl⟩)
    go_ret
    exact ⟨rfl, rfl⟩
  · have h1 : (n : Int) ≤ i := by omega
    go_enter Tryz.func195, Tryz.ntmps195
    go_wp2_with (go_at_call 99; refine hlen.mono ?_; rintro e w' ⟨rfl, rfl⟩)
    go_ret
    exact ⟨rfl, rfl⟩

theorem at_any (b : Nat) (v : Value) (l : List Bool) (i : Int) (w : World) (h : VecAt w b v l) (hl : l.length ≤ 1000000000) :
    Calls Tryz.prog 195 #[.pointer (some ⟨b, 0, none⟩), .int .i64 i] w fun e w' => e = .returned (.int .i64 (atZ l i)) ∧ w = w' := by
  unfold atZ
  split
  · rename_i hi
    obtain ⟨n, rfl⟩ := Int.eq_ofNat_of_zero_le hi.1
    exact at_in b v l n w h (by omega) hl
  · rename_i hi
    exact at_out b v l i w h hi

theorem or_bit (x0 r : Nat) (x : Bool) (hx : x0 < 18446744073709551616) (hr : r < 64) :
    bits BinOp.or IntKind.u64 (x0 : Int) (IntKind.u64.wrap ((x.toNat : Int) * 2 ^ r)) = ((x0 ||| x.toNat * 2 ^ r : Nat) : Int) := by
  have h2 : 2 ^ r ≤ 2 ^ 63 := Nat.pow_le_pow_right (by decide) (by omega)
  have h3 : x.toNat * 2 ^ r < 18446744073709551616 := by cases x <;> simp <;> omega
  have e : ((x.toNat : Int) * 2 ^ r) = ((x.toNat * 2 ^ r : Nat) : Int) := by simp
  rw [e, IntKind.wrap_u64, show (((x.toNat * 2 ^ r : Nat) : Int) % 18446744073709551616) = ((x.toNat * 2 ^ r : Nat) : Int) by omega]
  exact bits_or_u64_nat _ _ hx h3

/-- What 'add' has laid in the end. -/
theorem vec_add_fin {w : World} {b g cap : Nat} {l : List Bool} (x : Bool) (hb : w.heap[b]? = some (.cells #[.slice (some ⟨g, 0, none⟩) (padded l).length cap, .int .i64 l.length] 203 (0, 0)))
    (ho : w.ownsRow 0 94 1 (.slice (some ⟨g, 0, none⟩) (padded l).length cap) (padded l).length ((padded l).map fun x : Nat => Value.int .u64 x)) (hgb : g ≠ b) :
    VecAt (((w.setCell ⟨g, l.length / 64, none⟩ (.int .u64 (bits BinOp.or IntKind.u64 (wordAt l (l.length / 64) : Nat) (IntKind.u64.wrap ((x.toNat : Int) * 2 ^ (l.length % 64)))))).setCell ⟨b, 1, none⟩ (.int .i64 ((l.length : Int) + 1))).drew)
      b (.slice (some ⟨g, 0, none⟩) (padded l).length cap) (l ++ [x]) ∧
    Keeps (fun k => k = b ∨ k = g) w (((w.setCell ⟨g, l.length / 64, none⟩ (.int .u64 (bits BinOp.or IntKind.u64 (wordAt l (l.length / 64) : Nat) (IntKind.u64.wrap ((x.toNat : Int) * 2 ^ (l.length % 64)))))).setCell ⟨b, 1, none⟩ (.int .i64 ((l.length : Int) + 1))).drew) := by
  rw [or_bit _ _ _ (wordAt_lt _ _) (Nat.mod_lt _ (by decide))]
  refine ⟨⟨?_, ?_⟩, (((Keeps.refl _ w).setCell (.inl (.inr rfl)) _).setCell (.inl (.inl rfl)) _).drew⟩
  · show ((w.setCell _ _).setCell _ _).heap[b]? = _
    have h1 : (w.setCell ⟨g, l.length / 64, none⟩ (.int .u64 ((wordAt l (l.length / 64) ||| x.toNat * 2 ^ (l.length % 64) : Nat) : Int))).heap[b]? = _ := (Below.heap_setCell w _ _ b (by simpa using hgb.symm)).trans hb
    rw [heap_setCell_same h1]
    simp
  · have h2 := owns_set ho (l.length / 64) (.int .u64 ((wordAt l (l.length / 64) ||| x.toNat * 2 ^ (l.length % 64) : Nat) : Int))
    have h3 := ownsRow_setCell_other h2 (a := ⟨b, 1, none⟩) (by simp [Value.ownBlock]; exact hgb) (.int .i64 ((l.length : Int) + 1))
    have e : (words (l ++ [x])).length = (padded l).length := by rw [words_snoc]; simp
    rw [e, words_snoc, List.map_set]
    exact h3

set_option maxRecDepth 100000 in
set_option maxHeartbeats 400000 in
theorem add_any (b : Nat) (v : Value) (l : List Bool) (x : Bool) (w : World) (h : VecAt w b v l) (hl : l.length < 1000000000) :
    Calls Tryz.prog 173 #[.pointer (some ⟨b, 0, none⟩), .int .u64 x.toNat] w fun e w' => e = .returned (.tuple #[]) ∧ ∃ v', VecAt w' b v' (l ++ [x]) ∧ Keeps (fun k => k = b ∨ v.ownBlock = some k) w w' ∧ (v'.ownBlock = v.ownBlock ∨ ∃ k, v'.ownBlock = some k ∧ w.heap.size ≤ k) := by
  have h1 : w.cell? ⟨b, 1, none⟩ = some (.int .i64 l.length) := World.cell_of_heap h.1 1
  have h0 : w.cell? ⟨b, 0, none⟩ = some v := World.cell_of_heap h.1 0
  have f1 := World.free_of_heap h.1 1
  have f0 := World.free_of_heap h.1 0
  by_cases hn : l.length % 64 = 0
  · have hn' : (((l.length : Int) % 64) == 0) = true := by simp; omega
    have hown := h.2
    have hml : (words l).length = l.length / 64 := by rw [words_length]; omega
    have hap := h.apart
    have hb := h.1
    have hpad : padded l = words l ++ [0] := by unfold padded; rw [if_pos hn]
    have hpg := padded_get l
    have hpl := padded_length l
    obtain ⟨i, hi, hz0, hz1, hz2⟩ := info_parts infoU64
    clear h
    have Hb := Lib.hid hb
    clear hb
    have Hpad := Lib.hid (And.intro hpad (And.intro hpg (And.intro hpl hml)))
    clear hpad hpg hpl hml
    have Hn := Lib.hid hn
    clear hn
    go_enter Tryz.func173, Tryz.ntmps173
    go_wp2_with (at_builtin; refine wpList_append_lies _ rfl _ _ _ rfl 0 94 i (.int .u64 0) 1 8 Tryz.underlying201 hi hz0 hz1 hz2 rfl (by decide) v (words l).length _ rfl (hown.alloc _) ⟨w.heap.size, 0, none⟩ 1 1 [.int .u64 0] rfl rfl (cell_one_new _ _ _) ?c2 (by decide) ?c3 ?c4 ?c5 (w.heap.size + 1) (by simp) ?_)
    case c2 => intro u hu; simp at hu; subst hu; rfl
    case c3 => have := Hpad.out.2.2.2; unfold maxLen; omega
    case c4 => have := Hpad.out.2.2.2; omega
    case c5 => simp
    intro g cap w1 hown1 hgrow hat hlt
    obtain ⟨hpad, hpg, hpl, hml⟩ := Hpad.out
    have hb := Hb.out
    have hn := Hn.out
    have hbl : b < w.heap.size := lt_of_block hb
    have hgb : g ≠ b := by
      rcases hat with h | h
      · exact (hap g h).1
      · omega
    have hbg := hgb.symm
    have hb1 : w1.heap[b]? = some (.cells #[v, .int .i64 l.length] 203 (0, 0)) := by
      rw [hgrow.block b (by simp; omega) (fun e => (hap b e.symm).1 rfl), Below.heap_alloc _ _ _ hbl]
      exact hb
    have hlen : (padded l).length = (words l).length + 1 := by rw [hpad]; simp
    have hmap : (words l).map (fun x : Nat => Value.int .u64 x) ++ [Value.int .u64 0] = (padded l).map (fun x : Nat => Value.int .u64 x) := by rw [hpad]; simp
    rw [hmap, ← hlen] at hown1
    have k1 : Keeps (fun k => k = b ∨ v.ownBlock = some k) w w1 := ((Keeps.refl _ w).alloc _).grown hgrow (fun k hk => .inl (.inr hk))
    have hb2 : (w1.setCell ⟨b, 0, none⟩ (.slice (some ⟨g, 0, none⟩) (padded l).length cap)).heap[b]? = some (.cells #[.slice (some ⟨g, 0, none⟩) (padded l).length cap, .int .i64 l.length] 203 (0, 0)) := by
      rw [heap_setCell_same hb1]; simp
    have ho2 := ownsRow_setCell_other hown1 (a := ⟨b, 0, none⟩) (by simp [Value.ownBlock]; exact hgb) (.slice (some ⟨g, 0, none⟩) (padded l).length cap)
    have k2 := k1.setCell (p := ⟨b, 0, none⟩) (.inl (.inl rfl)) (.slice (some ⟨g, 0, none⟩) (padded l).length cap)
    have hfin := vec_add_fin x hb2 ho2 hgb
    have k3 := k2.trans hfin.2 (by
      rintro k hk (rfl | rfl)
      · exact .inl rfl
      · rcases hat with h | h
        · exact .inr h
        · omega)
    have hv : (Value.slice (some ⟨g, 0, none⟩) (padded l).length cap).ownBlock = v.ownBlock ∨ ∃ k, (Value.slice (some ⟨g, 0, none⟩) (padded l).length cap).ownBlock = some k ∧ w.heap.size ≤ k := by
      rcases hat with h | h
      · exact .inl h.symm
      · exact .inr ⟨g, rfl, by omega⟩
    have Hfin := Lib.hid (And.intro hfin.1 (And.intro k3 hv))
    clear hfin k3 hv ho2
    obtain ⟨g', cap', hg', hnc, hcm, hc, _, _⟩ := owns_form hown1 (by omega)
    simp only [Value.slice.injEq, Option.some.injEq, Addr.mk.injEq] at hg'
    obtain ⟨⟨rfl, _⟩, _, rfl⟩ := hg'
    obtain ⟨hx, hfx⟩ := hc (l.length / 64) (.int .u64 (wordAt l (l.length / 64) : Nat)) (by rw [List.getElem?_map, hpg]; rfl)
    have c0 := World.cell_of_heap hb1 0
    have c1 := World.cell_of_heap hb1 1
    have d0 := World.free_of_heap hb1 0
    have d1 := World.free_of_heap hb1 1
    simp only [List.getElem?_toArray, List.getElem?_cons_zero, List.getElem?_cons_succ] at c0 c1
    rw [← hlen]
    have hlt2 : l.length / 64 < (padded l).length := by omega
    clear hpl hc k1 k2 hb2 hb1 hgrow hat hown1 hmap hpad hpg hn hb hap hown hi hz0 hz1 hz2 hlen hml
    unfold maxLen at hcm
    have hxl := wordAt_lt l (l.length / 64)
    generalize wordAt l (l.length / 64) = x0 at *
    generalize (padded l).length = m at *
    generalize l.length = n at *
    go_wp2_with fail
    go_region
    all_goals
      go_wp2
      go_end0
      exact ⟨rfl, _, Hfin.out⟩
  · have hn' : (((l.length : Int) % 64) == 0) = false := by simp; omega
    have hm : l.length / 64 < (words l).length := by rw [words_length]; omega
    have hml : (words l).length ≤ 1000000000 := by rw [words_length]; omega
    obtain ⟨g, cap, rfl, hnc, hcm, hc, _, _⟩ := owns_form h.2 (by omega)
    have hx := hc (l.length / 64) (.int .u64 (wordAt l (l.length / 64) : Nat)) (by rw [List.getElem?_map, words_get (by rw [words_length] at hm; exact hm)]; rfl)
    obtain ⟨hx, hfx⟩ := hx
    clear hc
    unfold maxLen at hcm
    have hgb := (h.apart g rfl).1
    have hbg := hgb.symm
    have hpad : padded l = words l := by unfold padded; rw [if_neg hn]
    have hfin := vec_add_fin (w := w) (b := b) (g := g) (cap := cap) (l := l) x (by rw [hpad]; exact h.1) (by rw [hpad]; exact h.2) hgb
    rw [hpad] at hfin
    clear hpad h
    have Hfin := Lib.hid hfin
    clear hfin
    generalize wordAt l (l.length / 64) = x0 at *
    generalize l.length = n at *
    generalize (words l).length = m at *
    go_enter Tryz.func173, Tryz.ntmps173
    go_wp2_with fail
    go_region
    all_goals
      go_wp2
      go_end0
      exact ⟨rfl, _, Hfin.out.1, Hfin.out.2.mono (by rintro k _ (rfl | rfl); exact .inl rfl; exact .inr rfl), .inl rfl⟩

theorem add_one (b : Nat) (v : Value) (l : List Bool) (w : World) (h : VecAt w b v l) (hl : l.length < 1000000000) :
    Calls Tryz.prog 173 #[.pointer (some ⟨b, 0, none⟩), .int .u64 1] w fun e w' => e = .returned (.tuple #[]) ∧ ∃ v', VecAt w' b v' (l ++ [true]) ∧ Keeps (fun k => k = b ∨ v.ownBlock = some k) w w' ∧ (v'.ownBlock = v.ownBlock ∨ ∃ k, v'.ownBlock = some k ∧ w.heap.size ≤ k) :=
  add_any b v l true w h hl
theorem add_zero (b : Nat) (v : Value) (l : List Bool) (w : World) (h : VecAt w b v l) (hl : l.length < 1000000000) :
    Calls Tryz.prog 173 #[.pointer (some ⟨b, 0, none⟩), .int .u64 0] w fun e w' => e = .returned (.tuple #[]) ∧ ∃ v', VecAt w' b v' (l ++ [false]) ∧ Keeps (fun k => k = b ∨ v.ownBlock = some k) w w' ∧ (v'.ownBlock = v.ownBlock ∨ ∃ k, v'.ownBlock = some k ∧ w.heap.size ≤ k) :=
  add_any b v l false w h hl

end Go.Proofs.YtcfdpogegngplaaGreat

/- The contracts of package bits: many bits at once. -/
namespace Go.Proofs.YtcfdpogegngplaaGreat
open Go.RowKit

/-- Numbers as bits: nought or not. -/
def bitsOf (zs : List Int) : List Bool := zs.map fun z => !(z == 0)

theorem bitsOf_snoc (zs : List Int) (k : Nat) (z : Int) (h : zs[k]? = some z) : bitsOf (zs.take (k + 1)) = bitsOf (zs.take k) ++ [!(z == 0)] := by
  have hk : k < zs.length := by
    rcases Nat.lt_or_ge k zs.length with h' | h'
    · exact h'
    · rw [List.getElem?_eq_none h'] at h; cases h
  rw [List.take_succ_eq_append_getElem hk]
  simp only [bitsOf, List.map_append, List.map_cons, List.map_nil]
  rw [List.getElem?_eq_getElem hk] at h
  cases h
  rfl

/-- A vector that has grown from v, l to v', l'; the world with it. -/
def VecGrown (w : World) (b : Nat) (v : Value) (l' : List Bool) (w' : World) : Prop :=
  ∃ v', VecAt w' b v' l' ∧ Keeps (fun k => k = b ∨ v.ownBlock = some k) w w' ∧ (v'.ownBlock = v.ownBlock ∨ ∃ k, v'.ownBlock = some k ∧ w.heap.size ≤ k)

theorem VecGrown.trans {w w1 w2 : World} {b : Nat} {v v1 : Value} {l' : List Bool} (hk : Keeps (fun k => k = b ∨ v.ownBlock = some k) w w1)
    (hv : v1.ownBlock = v.ownBlock ∨ ∃ k, v1.ownBlock = some k ∧ w.heap.size ≤ k) (h : VecGrown w1 b v1 l' w2) : VecGrown w b v l' w2 := by
  obtain ⟨v2, h1, h2, h3⟩ := h
  refine ⟨v2, h1, hk.trans h2 ?_, ?_⟩
  · rintro x hx (rfl | hx2)
    · exact .inl rfl
    · rcases hv with hv | ⟨k, hv, hk⟩
      · exact .inr (by rw [← hv]; exact hx2)
      · rw [hv] at hx2; cases hx2; omega
  · rcases h3 with h3 | ⟨k, h3, hk3⟩
    · rw [h3]; exact hv
    · exact .inr ⟨k, h3, Nat.le_trans hk.size hk3⟩

set_option maxRecDepth 100000 in
set_option maxHeartbeats 400000 in
theorem Add_any (b : Nat) (v : Value) (l : List Bool) (sv : Value) (zs : List Int) (w : World) (h : VecAt w b v l) (hs : Sl .i64 w sv zs)
    (hd : ∀ k, sv.ownBlock = some k → k ≠ b ∧ v.ownBlock ≠ some k) (hl : l.length + zs.length < 1000000000) :
    Calls Tryz.prog 142 #[.pointer (some ⟨b, 0, none⟩), sv] w fun e w' => e = .returned (.tuple #[]) ∧ VecGrown w b v (l ++ bitsOf zs) w' := by
  obtain ⟨a, cap, rfl, hnc, hcm, _, hc⟩ := hs
  go_enter Tryz.func142, Tryz.ntmps142
  go_wp2_with fail
  go_loopw [10] (fun i wr => ∃ k : Nat, k ≤ zs.length ∧ i = .int .i64 k ∧ VecGrown w b v (l ++ bitsOf (zs.take k)) wr) (fun i _ => zs.length - (intOf i).toNat)
  case atStart => exact ⟨0, Nat.zero_le _, rfl, v, by simpa [bitsOf] using h, Keeps.refl _ _, .inl rfl⟩
  case round =>
    obtain ⟨k, hk, rfl, hg⟩ := hrel
    by_cases hlt : k < zs.length
    · obtain ⟨z, hz⟩ : ∃ z, zs[k]? = some z := ⟨_, List.getElem?_eq_getElem hlt⟩
      obtain ⟨g, off, rfl, hcell⟩ := hc k z hz
      obtain ⟨v1, hv1, hk1, hf1⟩ := hg
      have hcell1 : wr.cell? ⟨g, off + k, none⟩ = some (.int .i64 z) := by
        rw [World.cell?_of_block (w := w) (hk1.block g (World.block_lt_of_cell? _ _ hcell) (by rintro (h | h); exact (hd g rfl).1 h; exact (hd g rfl).2 h))]
        exact hcell
      have hs2 := bitsOf_snoc zs k z hz
      have hll : (l ++ bitsOf (zs.take k)).length < 1000000000 := by simp [bitsOf]; omega
      have HS := Lib.hid hs2
      clear hs2 hc hz hcell h
      by_cases hz0 : z = 0
      · subst hz0
        have hA := add_zero b v1 _ wr hv1 hll
        go_wp2_with (go_at_call 173; refine hA.mono ?_; rintro e w2 ⟨rfl, hw2⟩)
        go_roundw
        case rel => exact ⟨k + 1, by omega, by go_num, by have e := HS.out; simp only [beq_self_eq_true, Bool.not_true] at e; rw [e, ← List.append_assoc]; exact VecGrown.trans hk1 hf1 hw2⟩
        case measure => simp [intOf]; omega
      · have hz1 : (!(z == 0)) = true := by simp [hz0]
        have hz2 : (z != 0) = true := by simp [hz0]
        rw [hz1] at HS
        clear hz1 hz0
        have hA := add_one b v1 _ wr hv1 hll
        go_wp2_with (go_at_call 173; refine hA.mono ?_; rintro e w2 ⟨rfl, hw2⟩)
        go_roundw
        case rel => exact ⟨k + 1, by omega, by go_num, by rw [HS.out, ← List.append_assoc]; exact VecGrown.trans hk1 hf1 hw2⟩
        case measure => simp [intOf]; omega
    · obtain rfl : k = zs.length := by omega
      rw [List.take_of_length_le (Nat.le_refl _)] at hg
      go_wp2
      go_end0
      exact ⟨rfl, hg⟩

theorem take_snoc (l : List Bool) (k : Nat) (h : k < l.length) : l.take (k + 1) = l.take k ++ [l.getD k false] := by
  rw [List.take_succ_eq_append_getElem h]
  simp [h]

theorem Sl.one (w : World) (k : IntKind) (z : Int) (t : TypeId) : Sl k (w.alloc (.cells #[.int k z] t)) (.slice (some ⟨w.heap.size, 0, none⟩) 1 1) [z] := by
  refine ⟨_, 1, rfl, by simp, by decide, (fun h => by cases h), fun j x hj => ?_⟩
  cases j with
  | zero => simp at hj; subst hj; exact ⟨_, _, rfl, by simp⟩
  | succ j => simp at hj

end Go.Proofs.YtcfdpogegngplaaGreat

/- The contracts of math/bits.OnesCount64 and of the vector's Ones. -/
namespace Go.Proofs.YtcfdpogegngplaaGreat
open Go.RowKit

theorem and_lit (a m : Nat) (M : Int) (hM : M = (m : Int)) (ha : a < 18446744073709551616) (hm : m < 18446744073709551616) : bits BinOp.and IntKind.u64 (a : Int) M = ((a &&& m : Nat) : Int) := by
  rw [hM]; exact bits_and_u64_nat a m ha hm

theorem wrap_nat (n : Nat) (h : n < 18446744073709551616) : IntKind.u64.wrap (n : Int) = (n : Int) := by
  rw [IntKind.wrap_u64]; omega

theorem div_nat (x k : Nat) (K : Int) (hK : K = (k : Int)) : (x : Int) / K = ((x / k : Nat) : Int) := by rw [hK]; exact (Int.natCast_ediv x k).symm

theorem s1 (x : Nat) (hx : x < 18446744073709551616) :
    IntKind.u64.wrap (bits BinOp.and IntKind.u64 ((x : Int) / 2) 6148914691236517205 + bits BinOp.and IntKind.u64 (x : Int) 6148914691236517205) = ((st1 6148914691236517205 x : Nat) : Int) ∧ st1 6148914691236517205 x ≤ 12297829382473034410 := by
  have h1 : (x / 2) &&& 6148914691236517205 ≤ 6148914691236517205 := Nat.and_le_right
  have h2 : x &&& 6148914691236517205 ≤ 6148914691236517205 := Nat.and_le_right
  have hle : st1 6148914691236517205 x ≤ 12297829382473034410 := by unfold st1; omega
  refine ⟨?_, hle⟩
  rw [div_nat x 2 2 rfl, and_lit (x / 2) 6148914691236517205 6148914691236517205 rfl (by omega) (by omega), and_lit x 6148914691236517205 6148914691236517205 rfl hx (by omega), ← Int.natCast_add, wrap_nat _ (by unfold st1 at hle; omega)]
  rfl

theorem s2 (x : Nat) (hx : x < 18446744073709551616) :
    IntKind.u64.wrap (bits BinOp.and IntKind.u64 ((x : Int) / 4) 3689348814741910323 + bits BinOp.and IntKind.u64 (x : Int) 3689348814741910323) = ((st2 3689348814741910323 x : Nat) : Int) ∧ st2 3689348814741910323 x ≤ 7378697629483820646 := by
  have h1 : (x / 4) &&& 3689348814741910323 ≤ 3689348814741910323 := Nat.and_le_right
  have h2 : x &&& 3689348814741910323 ≤ 3689348814741910323 := Nat.and_le_right
  have hle : st2 3689348814741910323 x ≤ 7378697629483820646 := by unfold st2; omega
  refine ⟨?_, hle⟩
  rw [div_nat x 4 4 rfl, and_lit (x / 4) 3689348814741910323 3689348814741910323 rfl (by omega) (by omega), and_lit x 3689348814741910323 3689348814741910323 rfl hx (by omega), ← Int.natCast_add, wrap_nat _ (by unfold st2 at hle; omega)]
  rfl

theorem s3 (x : Nat) (hx : x ≤ 7378697629483820646) :
    bits BinOp.and IntKind.u64 (IntKind.u64.wrap ((x : Int) / 16 + (x : Int))) 1085102592571150095 = ((st3 1085102592571150095 x : Nat) : Int) := by
  rw [div_nat x 16 16 rfl, ← Int.natCast_add, wrap_nat _ (by omega), and_lit (x / 16 + x) 1085102592571150095 1085102592571150095 rfl (by omega) (by omega)]
  rfl

end Go.Proofs.YtcfdpogegngplaaGreat

/- sync.Once and the counters of sync/atomic, in one goroutine. -/
namespace Go.Proofs.YtcfdpogegngplaaGreat
open Go.RowKit

theorem disable (w : World) : (callFunc 240 #[]).run Tryz.prog w = .ok (.value (.tuple #[])) w := run_call_mark0 Tryz.func240 (by kernel_rfl) (by kernel_rfl) (by kernel_rfl) .disable (by kernel_rfl) w
theorem enable (w : World) : (callFunc 242 #[]).run Tryz.prog w = .ok (.value (.tuple #[])) w := run_call_mark0 Tryz.func242 (by kernel_rfl) (by kernel_rfl) (by kernel_rfl) .enable (by kernel_rfl) w
theorem acquire (a : Addr) (w : World) : (callFunc 243 #[.pointer (some a)]).run Tryz.prog w = .ok (.value (.tuple #[])) w := run_call_marked Tryz.func243 (by kernel_rfl) (by kernel_rfl) (by kernel_rfl) .acquire (by kernel_rfl) a w
theorem releaseMerge (a : Addr) (w : World) : (callFunc 245 #[.pointer (some a)]).run Tryz.prog w = .ok (.value (.tuple #[])) w := run_call_marked Tryz.func245 (by kernel_rfl) (by kernel_rfl) (by kernel_rfl) .releaseMerge (by kernel_rfl) a w

/-- '(*sync/atomic.Bool).Store(true)', entered as a deferred call. -/
theorem store_deferred (a : Addr) (x : Value) (u : FrameMode) (w : World) (hc : w.cell? a = some x) (hz : w.frozen? a = false) :
    CallsD Tryz.prog 179 #[.pointer (some a), .bool true] u w fun e u' w' => u' = u ∧ (e = .returned (.tuple #[]) ∧ w' = w.drew.setCell a (.int .u32 1)) := by
  have hc' : w.drew.cell? a = some x := by go_simp
  have hz' : w.drew.frozen? a = false := by go_simp
  have hst := run_call_store (P := Tryz.prog) Tryz.func207 (by kernel_rfl) (by kernel_rfl) (by kernel_rfl) (by kernel_rfl) (k := .u32) (y := 1) hc' hz'
  go_enter_d Tryz.func179, Tryz.ntmps179
  go_wp2
  go_region_calls
  all_goals (go_end0; exact ⟨rfl, rfl⟩)

set_option maxRecDepth 100000 in
/-- '(*sync.Mutex).Unlock', entered as a deferred call, the lock held and nobody waiting. -/
theorem unlock_deferred (a : Addr) (u : FrameMode) (w : World) (hc : w.cell? a = some (.int .i32 1)) (hz : w.frozen? a = false) :
    CallsD Tryz.prog 178 #[.pointer (some a)] u w fun e u' w' => u' = u ∧ (e = .returned (.tuple #[]) ∧ w' = w.setCell a (.int .i32 0)) := by
  have hd := disable
  have he := enable
  have hr := releaseMerge
  have hadd := run_call_add (P := Tryz.prog) Tryz.func246 (by kernel_rfl) (by kernel_rfl) (by kernel_rfl) .i32 (by kernel_rfl) (y := -1) (s := 0) hc hz (by simp [go_sem]; rfl)
  have hcv := run_convert_to_unsafe (P := Tryz.prog) (src := 316) (dst := 320) Tryz.underlying316 Tryz.underlying320 (by kernel_rfl) hc
  go_enter_d Tryz.func178, Tryz.ntmps178
  go_wp2
  go_end0
  go_wp2
  go_end0
  exact ⟨rfl, rfl⟩

set_option maxRecDepth 100000 in
/-- '(*sync.Mutex).Lock', the lock free. -/
theorem lock_free (a : Addr) (w : World) (hc : w.cell? a = some (.int .i32 0)) (hz : w.frozen? a = false) :
    Calls Tryz.prog 177 #[.pointer (some a)] w fun e w' => e = .returned (.tuple #[]) ∧ w' = w.setCell a (.int .i32 1) := by
  have hd := disable
  have he := enable
  have ha := acquire
  have hcas := run_call_cas_hit (P := Tryz.prog) Tryz.func241 (by kernel_rfl) (by kernel_rfl) (by kernel_rfl) .i32 (by kernel_rfl) (y := 1) hc hz
  have hc' : (w.setCell a (.int .i32 1)).cell? a = some (.int .i32 1) := World.cell?_setCell_same w a _ hc
  have hcv := run_convert_to_unsafe (P := Tryz.prog) (src := 316) (dst := 320) Tryz.underlying316 Tryz.underlying320 (by kernel_rfl) hc'
  go_enter Tryz.func177, Tryz.ntmps177
  go_wp2
  first | go_end0 | (simp only [Exit.inBlock, Exit.then]; refine bodyPost_ret (results_none rfl _ _ _) rfl ?_) | refine bodyPost_ret (results_none rfl _ _ _) rfl ?_
  go_wp2
  go_end0
  exact ⟨rfl, rfl⟩

/-- What the function that is done once leaves: it has returned, the Once is as it was, its lock held. -/
def CallbackDone (b off : Nat) (R : World → Prop) (e : Ending) (w' : World) : Prop :=
  e = .returned (.tuple #[]) ∧ w'.cell? ⟨b, off, none⟩ = some (.int .u32 0) ∧ w'.cell? ⟨b, off + 1, none⟩ = some (.int .i32 1) ∧ w'.frozen? ⟨b, off, none⟩ = false ∧ w'.frozen? ⟨b, off + 1, none⟩ = false ∧ R w'

set_option maxRecDepth 100000 in
set_option maxHeartbeats 1600000 in
/-- '(*sync.Once).doSlow', not yet done, the lock free. -/
theorem slow_any (b off : Nat) (fn : FuncId) (first : Array Value) (R : World → Prop) (w : World) (hfn : ∀ W, (callFunc fn first).run Tryz.prog W = .ok (.enter fn first) W)
    (h0 : w.cell? ⟨b, off, none⟩ = some (.int .u32 0)) (h1 : w.cell? ⟨b, off + 1, none⟩ = some (.int .i32 0))
    (f1 : w.frozen? ⟨b, off + 1, none⟩ = false)
    (hcb : Calls Tryz.prog fn first (w.setCell ⟨b, off + 1, none⟩ (.int .i32 1)) (CallbackDone b off R)) :
    Calls Tryz.prog 149 #[.pointer (some ⟨b, off, none⟩), .func (.func fn) first #[]] w fun e w' => e = .returned (.tuple #[]) ∧
      ∃ w1, R w1 ∧ w' = (w1.drew.setCell ⟨b, off, none⟩ (.int .u32 1)).setCell ⟨b, off + 1, none⟩ (.int .i32 0) := by
  have hl := run_call_load (P := Tryz.prog) Tryz.func176 (by kernel_rfl) (by kernel_rfl) (by kernel_rfl) .u32 (by kernel_rfl) (w := w.setCell ⟨b, off + 1, none⟩ (.int .i32 1)) (a := ⟨b, off, none⟩) (x := 0) ((World.cell?_setCell_other _ ⟨b, off + 1, none⟩ ⟨b, off, none⟩ _ (by simp)).trans h0)
  have hnot : ∀ (x : Bool) (w : World), (Op.unary .not (.bool x)).run Tryz.prog w = .ok (.bool (!x)) w := fun _ _ => rfl
  have HC := Lib.hid hcb
  clear hcb
  go_enter_defers Tryz.func149, Tryz.ntmps149
  go_wp2_with (go_at_call 177; refine (lock_free ⟨b, off + 1, none⟩ _ (by go_simp) (by go_simp)).mono ?_; rintro e w' ⟨rfl, rfl⟩)
  go_wp2
  refine HC.out.mono ?_
  rintro e w1 ⟨rfl, c0, c1, g0, g1, hR⟩
  clear h0 h1 f1 hl HC
  go_wp2
  refine leaves_cons (f := 179) (args := #[.pointer (some ⟨b, off, none⟩), .bool true]) (by simp) (by simp [go_sem]) ?_
  refine (store_deferred ⟨b, off, none⟩ (.int .u32 0) .returning _ c0 g0).mono ?_
  rintro e u' w'' ⟨rfl, rfl, rfl⟩
  refine leaves_cons (f := 178) (args := #[.pointer (some ⟨b, off + 1, none⟩)]) (by simp [settle]) (by simp [go_sem]) ?_
  refine (unlock_deferred ⟨b, off + 1, none⟩ _ _ ?_ (by simp [g1])).mono ?_
  · refine (World.cell?_setCell_other _ ⟨b, off, none⟩ ⟨b, off + 1, none⟩ _ (by simp)).trans ?_
    rw [World.cell?_drew]
    exact c1
  rintro e u' w'' ⟨rfl, rfl, rfl⟩
  simp [Leaves, settle, results, Tryz.results149]
  exact ⟨w1, hR, rfl⟩

set_option maxRecDepth 100000 in
set_option maxHeartbeats 1600000 in
/-- '(*sync.Once).Do', not yet done, the lock free. -/
theorem do_first (b off : Nat) (fn : FuncId) (first : Array Value) (R : World → Prop) (w : World) (hfn : ∀ W, (callFunc fn first).run Tryz.prog W = .ok (.enter fn first) W)
    (h0 : w.cell? ⟨b, off, none⟩ = some (.int .u32 0)) (h1 : w.cell? ⟨b, off + 1, none⟩ = some (.int .i32 0))
    (f1 : w.frozen? ⟨b, off + 1, none⟩ = false)
    (hcb : Calls Tryz.prog fn first (w.setCell ⟨b, off + 1, none⟩ (.int .i32 1)) (CallbackDone b off R)) :
    Calls Tryz.prog 117 #[.pointer (some ⟨b, off, none⟩), .func (.func fn) first #[]] w fun e w' => e = .returned (.tuple #[]) ∧
      ∃ w1, R w1 ∧ w' = (w1.drew.setCell ⟨b, off, none⟩ (.int .u32 1)).setCell ⟨b, off + 1, none⟩ (.int .i32 0) := by
  have hl := run_call_load (P := Tryz.prog) Tryz.func176 (by kernel_rfl) (by kernel_rfl) (by kernel_rfl) .u32 (by kernel_rfl) h0
  have hnot : ∀ (x : Bool) (w : World), (Op.unary .not (.bool x)).run Tryz.prog w = .ok (.bool (!x)) w := fun _ _ => rfl
  have HS := Lib.hid (slow_any b off fn first R w hfn h0 h1 f1 hcb)
  clear hcb hfn
  go_enter Tryz.func117, Tryz.ntmps117
  go_wp2_with (first | (go_at_call 149; refine HS.out.mono ?_; rintro e w' ⟨rfl, hR⟩) | (go_at_call 148; go_in))
  go_end0
  exact ⟨rfl, hR⟩

/-- '(*sync.Once).Do', done already: the function is not called. -/
theorem do_done (a : Addr) (fv : Value) (w : World) (h0 : w.cell? a = some (.int .u32 1)) :
    Calls Tryz.prog 117 #[.pointer (some a), fv] w fun e w' => e = .returned (.tuple #[]) ∧ w = w' := by
  have hl := run_call_load (P := Tryz.prog) Tryz.func176 (by kernel_rfl) (by kernel_rfl) (by kernel_rfl) .u32 (by kernel_rfl) h0
  have hnot : ∀ (x : Bool) (w : World), (Op.unary .not (.bool x)).run Tryz.prog w = .ok (.bool (!x)) w := fun _ _ => rfl
  go_enter Tryz.func117, Tryz.ntmps117
  go_wp2
  go_end0
  exact ⟨rfl, rfl⟩

end Go.Proofs.YtcfdpogegngplaaGreat

/- Slices of int that a call makes itself. -/
namespace Go.Proofs.YtcfdpogegngplaaGreat
open Go.RowKit

theorem infoInt : (Tryz.prog.info? 3).map (fun i => (i.zero, i.size, i.bytes)) = some (some (.int .i64 0), 1, 8) := by kernel_rfl

def ints (zs : List Int) : List Value := zs.map fun z => Value.int .i64 z

/-- A slice of int that owns its cells, in blocks from B on. -/
def OwnI (B : Nat) (w : World) (v : Value) (zs : List Int) : Prop := w.ownsRow B 3 1 v zs.length (ints zs)

theorem OwnI.nil (B : Nat) (w : World) : OwnI B w (.slice none 0 0) [] := World.ownsRow_nil _ _ _ _
theorem OwnI.sl {B : Nat} {w : World} {v : Value} {zs : List Int} (h : OwnI B w v zs) : Sl .i64 w v zs := Sl.of_owns h
theorem OwnI.keeps {B : Nat} {w w' : World} {v : Value} {zs : List Int} {F : Nat → Prop} (h : OwnI B w v zs) (k : Keeps F w w') (hf : ∀ b, v.ownBlock = some b → ¬ F b) : OwnI B w' v zs := k.owns h hf
theorem OwnI.lt {B : Nat} {w : World} {v : Value} {zs : List Int} (h : OwnI B w v zs) : ∀ k, v.ownBlock = some k → B ≤ k ∧ k < w.heap.size := World.ownsRow.lt h
theorem OwnI.alloc {B : Nat} {w : World} {v : Value} {zs : List Int} (h : OwnI B w v zs) (o : Obj) : OwnI B (w.alloc o) v zs := World.ownsRow.alloc h o
theorem OwnI.form {B : Nat} {w : World} {v : Value} {zs : List Int} (h : OwnI B w v zs) : ∃ a cap, v = .slice a zs.length cap ∧ zs.length ≤ cap ∧ cap ≤ 9223372036854775807 := by
  obtain ⟨a, cap, hv, h1, h2, _, _⟩ := h.sl
  exact ⟨a, cap, hv, h1, h2⟩
theorem OwnI.mono {B B' : Nat} {w : World} {v : Value} {zs : List Int} (h : OwnI B w v zs) (hB : ∀ k, v.ownBlock = some k → B' ≤ k) : OwnI B' w v zs := by
  obtain ⟨h1, h2⟩ := h
  refine ⟨h1, ?_⟩
  rcases h2 with h2 | ⟨g, cap, cur, rfl, hb, r⟩
  · exact .inl h2
  · exact .inr ⟨g, cap, cur, rfl, hB g rfl, r⟩

/-- 'append(l, z)', l of the call's own. -/
theorem append1 {ops : Array Oper} {rest : List Oper} {o : Oper} {a : Act} {Q : Exit → Act → World → Prop} {wr : World} (hgd : o.guard = none) (s x : Operand)
    (ho : o.op = .call { callee := .builtin .append, args := #[s, x], argTypes := #[25, 25] }) (B : Nat) (v : Value) (zs : List Int) (z : Int) (H : Nat) (hH : wr.heap.size = H) (hs : a.eval s = v) (hx : a.eval x = .slice (some ⟨H, 0, none⟩) 1 1)
    (hown : OwnI B wr v zs) (hlen : zs.length ≤ 10000000000) (hB : B ≤ wr.heap.size)
    (h : ∀ g cap w', OwnI B w' (.slice (some ⟨g, 0, none⟩) (zs.length + 1) cap) (zs ++ [z]) → Keeps (fun k => v.ownBlock = some k) wr w' → (v.ownBlock = some g ∨ wr.heap.size ≤ g) → B ≤ g →
      wpList Tryz.prog ops Q rest (a.put o.dst (.slice (some ⟨g, 0, none⟩) (zs.length + 1) cap)) w') :
    wpList Tryz.prog ops Q (o :: rest) a (wr.alloc (.cells #[.int .i64 z] 3)) := by
  obtain ⟨i, hi, hz0, hz1, hz2⟩ := info_parts infoInt
  subst hH
  refine wpList_append_lies _ hgd s x _ ho B 3 i (.int .i64 0) 1 8 Tryz.underlying25 hi hz0 hz1 hz2 rfl (by decide) v zs.length _ hs (hown.alloc _) ⟨wr.heap.size, 0, none⟩ 1 1 [.int .i64 z] hx rfl (cell_one_new _ _ _) ?_ (by decide) ?_ ?_ ?_ (wr.heap.size + 1) (by simp) ?_
  · intro u hu; simp at hu; subst hu; rfl
  · unfold maxLen; omega
  · omega
  · simp; omega
  · intro g cap w1 hown1 hgrow hat _
    refine h g cap w1 ?_ (((Keeps.refl _ wr).alloc _).grown hgrow (fun k hk => .inl hk)) (hat.imp id (fun h => by omega)) ?_
    · unfold OwnI ints
      rw [List.length_append, List.map_append]
      exact hown1
    · exact (hown1.lt g rfl).1

/-- 'append(l, ys...)', l of the call's own, ys any slice of int. -/
theorem appendInts {ops : Array Oper} {rest : List Oper} {o : Oper} {a : Act} {Q : Exit → Act → World → Prop} {wr : World} (hgd : o.guard = none) (s x : Operand)
    (ho : o.op = .call { callee := .builtin .append, args := #[s, x], argTypes := #[25, 25] }) (B : Nat) (v sv : Value) (zs ys : List Int) (hs : a.eval s = v) (hx : a.eval x = sv)
    (hown : OwnI B wr v zs) (hsl : Sl .i64 wr sv ys) (hlen : zs.length + ys.length ≤ 10000000000) (hB : B ≤ wr.heap.size)
    (h : ∀ v' w', OwnI B w' v' (zs ++ ys) → Keeps (fun k => v.ownBlock = some k) wr w' → (v'.ownBlock = v.ownBlock ∨ ∃ k, v'.ownBlock = some k ∧ wr.heap.size ≤ k) → wpList Tryz.prog ops Q rest (a.put o.dst v') w') :
    wpList Tryz.prog ops Q (o :: rest) a wr := by
  obtain ⟨i, hi, hz0, hz1, hz2⟩ := info_parts infoInt
  obtain ⟨ad, cap, rfl, hnc, hcm, hnone, hc⟩ := hsl
  cases ad with
  | none =>
    have hy : ys = [] := by
      cases ys with
      | nil => rfl
      | cons y ys => obtain ⟨g, off, h, _⟩ := hc 0 y rfl; cases h
    subst hy
    have := hnone rfl
    subst this
    refine wpList_append_own_none hgd s x _ ho B 3 i 1 Tryz.underlying25 hi v zs.length _ hs hown hx ?_
    exact h v wr (by simpa using hown) (Keeps.refl _ _) (.inl rfl)
  | some ad =>
    refine wpList_append_own_at _ hgd s x _ ho B 3 i (.int .i64 0) 1 8 Tryz.underlying25 hi hz0 hz1 hz2 rfl (by decide) v zs.length _ hs hown ad ys.length cap (ints ys) hx (by simp [ints]) ?_ ?_ ?_ ?_ hB ?_
    · intro j u hj
      simp only [ints, List.getElem?_map, Option.map_eq_some_iff] at hj
      obtain ⟨z, hz, rfl⟩ := hj
      obtain ⟨g', off', hg, hcell⟩ := hc j z hz
      simp only [Option.some.injEq] at hg
      subst hg
      have hadd : (⟨g', off', none⟩ : Addr).add j = ⟨g', off' + j, none⟩ := by
        unfold Addr.add
        split <;> simp_all
      rw [hadd]
      exact hcell
    · intro u hu
      simp only [ints, List.mem_map] at hu
      obtain ⟨z, _, rfl⟩ := hu
      rfl
    · unfold maxLen; omega
    · omega
    · intro v' w' hown' hgrow _ hat
      refine h v' w' ?_ ((Keeps.refl _ wr).grown hgrow (fun k hk => .inl hk)) (hat.imp id (fun h => ⟨_, h, Nat.le_refl _⟩))
      unfold OwnI ints
      rw [List.length_append, List.map_append]
      exact hown'

end Go.Proofs.YtcfdpogegngplaaGreat

/- The contract of the reference's Few: bits of bytes. -/
namespace Go.Proofs.YtcfdpogegngplaaGreat
open Go.RowKit

def nats (l : List Nat) : List Int := l.map fun x : Nat => (x : Int)

end Go.Proofs.YtcfdpogegngplaaGreat
