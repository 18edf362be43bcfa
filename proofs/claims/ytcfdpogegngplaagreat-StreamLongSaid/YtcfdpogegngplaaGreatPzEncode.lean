/- Joined texts. -/
import Derived.Test.YtcfdpogegngplaaGreatPzBase
import Derived.Test.YtcfdpogegngplaaGreatPzCoder
import Derived.Deep.CutRange
import Derived.Test.YtcfdpogegngplaaGreatPzVarP

/- coder: the span's contracts. -/
namespace Go.Proofs.YtcfdpogegngplaaGreat
open Go.RowKit

/-- A span at the head of a block. -/
def SpanB (W : World) (b : Nat) (t : TypeId) (l h : Nat) (xs : List Value) : Prop := W.heap[b]? = some (.cells ⟨.int .u64 l :: .int .u64 h :: xs⟩ t (0, 0))

theorem SpanB.c0 {W : World} {b : Nat} {t : TypeId} {l h : Nat} {xs : List Value} (k : SpanB W b t l h xs) : W.cell? ⟨b, 0, none⟩ = some (.int .u64 l) := by
  have := World.cell_of_heap k 0; simpa using this
theorem SpanB.c1 {W : World} {b : Nat} {t : TypeId} {l h : Nat} {xs : List Value} (k : SpanB W b t l h xs) : W.cell? ⟨b, 1, none⟩ = some (.int .u64 h) := by
  have := World.cell_of_heap k 1; simpa using this
theorem SpanB.low {W : World} {b : Nat} {t : TypeId} {l h : Nat} {xs : List Value} (k : SpanB W b t l h xs) (z : Nat) : SpanB (W.setCell ⟨b, 0, none⟩ (.int .u64 (z : Int))) b t z h xs := by
  have := heap_setCell_same k 0 (.int .u64 (z : Int)); simpa [SpanB] using this
theorem SpanB.high {W : World} {b : Nat} {t : TypeId} {l h : Nat} {xs : List Value} (k : SpanB W b t l h xs) (z : Nat) : SpanB (W.setCell ⟨b, 1, none⟩ (.int .u64 (z : Int))) b t l z xs := by
  have := heap_setCell_same k 1 (.int .u64 (z : Int)); simpa [SpanB] using this
theorem SpanB.keeps {W W' : World} {b : Nat} {t : TypeId} {l h : Nat} {xs : List Value} {G : Nat → Prop} (k : SpanB W b t l h xs) (hk : Keeps G W W') (hG : ¬ G b) : SpanB W' b t l h xs := hk.at k hG

set_option maxRecDepth 100000 in
set_option maxHeartbeats 2000000 in
theorem spanMid_any (b : Nat) (l h : Nat) (c : Nat × Nat) (t : TypeId) (xs : List Value) (w : World) (hS : SpanB w b t l h xs) (hn : Nrm l h) (hc : OkC c) :
    Calls Tryz.prog 239 #[.pointer (some ⟨b, 0, none⟩), .agg #[.int .u64 c.1, .int .u64 c.2]] w fun e w' => e = .returned (.int .u64 (midC l h c : Nat)) ∧ Keeps (fun _ => False) w w' := by
  have hm := mid_bounds hn hc
  have hmd : midC l h c = l + (h - l + 1) * c.1 / (c.1 + c.2) - 1 := rfl
  obtain ⟨c1, c2⟩ := c
  obtain ⟨k1, k2, k3⟩ := hc
  have hh := hn.2.1
  have hlh := hn.1
  simp only at *
  have ka := (Keeps.refl (fun _ => False) w).alloc (.cells #[.int .u64 c1, .int .u64 c2] 270)
  have hSA := hS.keeps ka (fun h => h)
  have d0 := hSA.c0
  have d1 := hSA.c1
  obtain ⟨P, hP⟩ : ∃ P, P = (h - l + 1) * c1 := ⟨_, rfl⟩
  have hPb : P < 281474976710656 := by
    rw [hP]
    calc (h - l + 1) * c1 ≤ 4294967296 * c1 := Nat.mul_le_mul_right _ (by omega)
      _ < 4294967296 * 65536 := Nat.mul_lt_mul_of_pos_left (by omega) (by decide)
      _ = 281474976710656 := by decide
  obtain ⟨Q, hQ⟩ : ∃ Q, Q = P / (c1 + c2) := ⟨_, rfl⟩
  rw [← hP, ← hQ] at hmd
  rw [← hP, ← hQ] at hm
  have eP : ((h : Int) - (l : Int) + 1) * (c1 : Int) = (P : Int) := by rw [hP]; push_cast; congr 1; omega
  have eQ : (P : Int) / ((c1 : Int) + (c2 : Int)) = (Q : Int) := by rw [hQ]; push_cast; rfl
  have h00 : ¬ (c1 : Int) + (c2 : Int) = 0 := by omega
  have hQl : Q ≤ 4294967296 := by omega
  have HM := Lib.hid (And.intro hmd ka)
  clear hS hn hP hQ hmd ka hSA
  generalize midC l h (c1, c2) = M at *
  go_enter Tryz.func239, Tryz.ntmps239
  go_wp2_with fail
  go_quiet (fail)
  have HK := Lib.hid (HM.out.2.drewN nq)
  go_wp2
  go_ret
  refine ⟨?_, HK.out⟩
  show Ending.returned (.int .u64 ((l : Int) + (Q : Int) - 1)) = _
  rw [HM.out.1]
  congr 2
  omega

set_option maxRecDepth 100000 in
set_option maxHeartbeats 2000000 in
theorem spanTake_any (b : Nat) (l h : Nat) (c : Nat × Nat) (x : Bool) (t : TypeId) (xs : List Value) (w : World) (hS : SpanB w b t l h xs) (hn : Nrm l h) (hc : OkC c) :
    Calls Tryz.prog 199 #[.pointer (some ⟨b, 0, none⟩), .agg #[.int .u64 c.1, .int .u64 c.2], .int .i64 (x.toNat : Int)] w fun e w' => e = .returned (.tuple #[]) ∧ SpanB w' b t (if x then midC l h c + 1 else l) (if x then h else midC l h c) xs ∧ Keeps (fun k => k = b) w w' := by
  have ka := (Keeps.refl (fun _ => False) w).alloc (.cells #[.int .u64 c.1, .int .u64 c.2] 270)
  have hSA := hS.keeps ka (fun h => h)
  have hM := spanMid_any b l h c t xs _ hSA hn hc
  have hm := mid_bounds hn hc
  have hh := hn.2.1
  have HK := Lib.hid ka
  have HSA := Lib.hid hSA
  have hbl : b < w.heap.size := lt_of_block hS
  clear hS hn ka hSA
  generalize midC l h c = M at *
  obtain ⟨c1, c2⟩ := c
  simp only at *
  clear hc
  go_enter Tryz.func199, Tryz.ntmps199
  go_wp2_with fail
  refine hM.mono ?_
  clear hM
  rintro e w1 ⟨rfl, hk1⟩
  have h1 := HSA.out.keeps hk1 (fun h => h)
  have kk : Keeps (fun k => k = b) w w1 := (HK.out.trans hk1 (fun _ _ h => h)).mono (fun _ _ h => h.elim)
  have c0 := h1.c0
  have c1' := h1.c1
  have f0 := World.free_of_heap h1
  cases x
  · have HF : Hid (SpanB (w1.setCell ⟨b, 1, none⟩ (.int .u64 (M : Int))) b t l M xs ∧ Keeps (fun k => k = b) w (w1.setCell ⟨b, 1, none⟩ (.int .u64 (M : Int)))) := Lib.hid ⟨h1.high M, kk.setCell (p := ⟨b, 1, none⟩) (.inl rfl) _⟩
    clear kk h1 hk1
    go_wp2_with fail
    go_end0
    exact ⟨rfl, HF.out⟩
  · have HF : Hid (SpanB (w1.setCell ⟨b, 0, none⟩ (.int .u64 ((M + 1 : Nat) : Int))) b t (M + 1) h xs ∧ Keeps (fun k => k = b) w (w1.setCell ⟨b, 0, none⟩ (.int .u64 ((M + 1 : Nat) : Int)))) := Lib.hid ⟨h1.low (M + 1), kk.setCell (p := ⟨b, 0, none⟩) (.inl rfl) _⟩
    clear kk h1 hk1
    have e1 : ((M + 1 : Nat) : Int) = (M : Int) + 1 := by omega
    rw [e1] at HF
    go_wp2_with fail
    go_end0
    exact ⟨rfl, HF.out⟩

end Go.Proofs.YtcfdpogegngplaaGreat

/- coder: the model's contracts. -/
namespace Go.Proofs.YtcfdpogegngplaaGreat
open Go.RowKit

/-- The counts, two cells each. -/
def CntAt (W : World) (g : Nat) (cs : List (Nat × Nat)) : Prop :=
  ∃ arr : Array Value, W.heap[g]? = some (.cells arr 270 (0, 0)) ∧ arr.size = 2 * cs.length ∧ ∀ i c, cs[i]? = some c → arr[i * 2]? = some (.int .u64 c.1) ∧ arr[i * 2 + 1]? = some (.int .u64 c.2)

theorem CntAt.keeps {W W' : World} {g : Nat} {cs : List (Nat × Nat)} {G : Nat → Prop} (h : CntAt W g cs) (k : Keeps G W W') (hG : ¬ G g) : CntAt W' g cs := by
  obtain ⟨arr, h1, h2, h3⟩ := h
  exact ⟨arr, k.at h1 hG, h2, h3⟩
theorem CntAt.cell {W : World} {g : Nat} {cs : List (Nat × Nat)} (h : CntAt W g cs) {i : Nat} {c : Nat × Nat} (hc : cs[i]? = some c) : W.cell? ⟨g, i * 2, none⟩ = some (.int .u64 c.1) ∧ W.cell? ⟨g, i * 2 + 1, none⟩ = some (.int .u64 c.2) ∧ ∀ j, W.frozen? ⟨g, j, none⟩ = false := by
  obtain ⟨arr, h1, h2, h3⟩ := h
  obtain ⟨e1, e2⟩ := h3 i c hc
  exact ⟨(World.cell_of_heap h1 (i * 2)).trans e1, (World.cell_of_heap h1 (i * 2 + 1)).trans e2, World.free_of_heap h1⟩

theorem CntAt.set {W : World} {g : Nat} {cs : List (Nat × Nat)} (h : CntAt W g cs) {i : Nat} (hi : i < cs.length) (x y : Nat) : CntAt ((W.setCell ⟨g, i * 2, none⟩ (.int .u64 (x : Int))).setCell ⟨g, i * 2 + 1, none⟩ (.int .u64 (y : Int))) g (cs.set i (x, y)) := by
  obtain ⟨arr, h1, h2, h3⟩ := h
  refine ⟨_, heap_setCell_same (heap_setCell_same h1 (i * 2) _) (i * 2 + 1) _, by simp [h2], fun j c hc => ?_⟩
  by_cases hj : i = j
  · subst hj
    rw [List.getElem?_set_self hi] at hc
    obtain rfl := Option.some.inj hc
    constructor
    · rw [Array.getElem?_setIfInBounds_ne (by omega), Array.getElem?_setIfInBounds_self_of_lt (by omega)]
    · rw [Array.getElem?_setIfInBounds_self_of_lt (by simp; omega)]
  · rw [List.getElem?_set_ne hj] at hc
    obtain ⟨e1, e2⟩ := h3 j c hc
    constructor
    · rw [Array.getElem?_setIfInBounds_ne (by omega), Array.getElem?_setIfInBounds_ne (by omega), e1]
    · rw [Array.getElem?_setIfInBounds_ne (by omega), Array.getElem?_setIfInBounds_ne (by omega), e2]

theorem CntAt.put {W : World} {g : Nat} {cs : List (Nat × Nat)} (h : CntAt W g cs) {i : Nat} {c : Nat × Nat} (hc : cs[i]? = some c) (b : Bool) (z : Nat) : CntAt (W.setCell ⟨g, i * 2 + b.toNat, none⟩ (.int .u64 (z : Int))) g (cs.set i (if b then (c.1, z) else (z, c.2))) := by
  obtain ⟨arr, h1, h2, h3⟩ := h
  have hi := ltGet hc
  obtain ⟨f1, f2⟩ := h3 i c hc
  refine ⟨_, heap_setCell_same h1 (i * 2 + b.toNat) _, by simp [h2], fun j d hd => ?_⟩
  by_cases hj : i = j
  · subst hj
    rw [List.getElem?_set_self hi] at hd
    obtain rfl := Option.some.inj hd
    cases b
    · simp only [Bool.toNat_false, Nat.add_zero, Bool.false_eq_true, if_false]
      exact ⟨by rw [Array.getElem?_setIfInBounds_self_of_lt (by omega)], by rw [Array.getElem?_setIfInBounds_ne (by omega), f2]⟩
    · simp only [Bool.toNat_true, if_true]
      exact ⟨by rw [Array.getElem?_setIfInBounds_ne (by omega), f1], by rw [Array.getElem?_setIfInBounds_self_of_lt (by omega)]⟩
  · rw [List.getElem?_set_ne hj] at hd
    obtain ⟨e1, e2⟩ := h3 j d hd
    have hb : b.toNat ≤ 1 := by cases b <;> simp
    constructor
    · rw [Array.getElem?_setIfInBounds_ne (by omega), e1]
    · rw [Array.getElem?_setIfInBounds_ne (by omega), e2]

/-- A model in memory. -/
def CMAt (W : World) (bm gc : Nat) (m : CM) : Prop := W.heap[bm]? = some (.cells #[.slice (some ⟨gc, 0, none⟩) m.cs.length m.cs.length, .int .u64 m.now] 273 (0, 0)) ∧ CntAt W gc m.cs ∧ bm ≠ gc

theorem CMAt.keeps {W W' : World} {bm gc : Nat} {m : CM} {G : Nat → Prop} (h : CMAt W bm gc m) (k : Keeps G W W') (h1 : ¬ G bm) (h2 : ¬ G gc) : CMAt W' bm gc m := ⟨k.at h.1 h1, h.2.1.keeps k h2, h.2.2⟩

end Go.Proofs.YtcfdpogegngplaaGreat

/- coder: a new model. -/
namespace Go.Proofs.YtcfdpogegngplaaGreat
open Go.RowKit

/-- Counts of one and one, as far as j. -/
def OfS (W : World) (g N j : Nat) : Prop :=
  ∃ arr : Array Value, W.heap[g]? = some (.cells arr 270 (0, 0)) ∧ arr.size = 2 * N ∧ ∀ i, i < j → arr[i * 2]? = some (.int .u64 1) ∧ arr[i * 2 + 1]? = some (.int .u64 1)

theorem OfS.keeps {W W' : World} {g N j : Nat} {G : Nat → Prop} (h : OfS W g N j) (k : Keeps G W W') (hG : ¬ G g) : OfS W' g N j := by
  obtain ⟨arr, h1, h2, h3⟩ := h
  exact ⟨arr, k.at h1 hG, h2, h3⟩
theorem OfS.cells {W : World} {g N j : Nat} (h : OfS W g N j) (hj : j < N) : (∃ v u, W.cell? ⟨g, j * 2, none⟩ = some v ∧ W.cell? ⟨g, j * 2 + 1, none⟩ = some u) ∧ ∀ i, W.frozen? ⟨g, i, none⟩ = false := by
  obtain ⟨arr, h1, h2, h3⟩ := h
  refine ⟨⟨arr[j * 2]'(by omega), arr[j * 2 + 1]'(by omega), ?_, ?_⟩, World.free_of_heap h1⟩
  · exact (World.cell_of_heap h1 (j * 2)).trans (Array.getElem?_eq_getElem (by omega))
  · exact (World.cell_of_heap h1 (j * 2 + 1)).trans (Array.getElem?_eq_getElem (by omega))
theorem OfS.step {W : World} {g N j : Nat} (h : OfS W g N j) (hj : j < N) : OfS ((W.setCell ⟨g, j * 2, none⟩ (.int .u64 1)).setCell ⟨g, j * 2 + 1, none⟩ (.int .u64 1)) g N (j + 1) := by
  obtain ⟨arr, h1, h2, h3⟩ := h
  refine ⟨_, heap_setCell_same (heap_setCell_same h1 (j * 2) _) (j * 2 + 1) _, by simp [h2], fun i hi => ?_⟩
  by_cases hij : i = j
  · subst hij
    constructor
    · rw [Array.getElem?_setIfInBounds_ne (by omega), Array.getElem?_setIfInBounds_self_of_lt (by omega)]
    · rw [Array.getElem?_setIfInBounds_self_of_lt (by simp; omega)]
  · obtain ⟨e1, e2⟩ := h3 i (by omega)
    constructor
    · rw [Array.getElem?_setIfInBounds_ne (by omega), Array.getElem?_setIfInBounds_ne (by omega), e1]
    · rw [Array.getElem?_setIfInBounds_ne (by omega), Array.getElem?_setIfInBounds_ne (by omega), e2]
theorem OfS.done {W : World} {g N : Nat} (h : OfS W g N N) : CntAt W g (List.replicate N (1, 1)) := by
  obtain ⟨arr, h1, h2, h3⟩ := h
  refine ⟨arr, h1, by simp [h2], fun i c hc => ?_⟩
  have hi := ltGet hc
  rw [List.getElem?_eq_getElem hi, List.getElem_replicate] at hc
  obtain rfl := Option.some.inj hc
  rw [List.length_replicate] at hi
  exact h3 i hi

end Go.Proofs.YtcfdpogegngplaaGreat

/- coder: the writer. -/
namespace Go.Proofs.YtcfdpogegngplaaGreat
open Go.RowKit

/-- A writer in memory: its span, its vector, how many bits wait. -/
structure WrS (W : World) (bw bv : Nat) (vv : Value) (s : EncS) : Prop where
  sp : SpanB W bw 266 s.l s.h [.pointer (some ⟨bv, 0, none⟩), .int .i64 s.w]
  vec : VecAt W bv vv s.o
  ne : bw ≠ bv
  no : vv.ownBlock ≠ some bw

theorem WrS.c2 {W : World} {bw bv : Nat} {vv : Value} {s : EncS} (h : WrS W bw bv vv s) : W.cell? ⟨bw, 2, none⟩ = some (.pointer (some ⟨bv, 0, none⟩)) := by
  have := World.cell_of_heap h.sp 2; simpa using this
theorem WrS.c3 {W : World} {bw bv : Nat} {vv : Value} {s : EncS} (h : WrS W bw bv vv s) : W.cell? ⟨bw, 3, none⟩ = some (.int .i64 s.w) := by
  have := World.cell_of_heap h.sp 3; simpa using this
theorem WrS.free {W : World} {bw bv : Nat} {vv : Value} {s : EncS} (h : WrS W bw bv vv s) : ∀ i, W.frozen? ⟨bw, i, none⟩ = false := World.free_of_heap h.sp
theorem WrS.keeps {W W' : World} {bw bv : Nat} {vv : Value} {s : EncS} {G : Nat → Prop} (h : WrS W bw bv vv s) (k : Keeps G W W') (h1 : ¬ G bw) (h2 : ¬ G bv) (h3 : ∀ q, vv.ownBlock = some q → ¬ G q) : WrS W' bw bv vv s := ⟨h.sp.keeps k h1, h.vec.keeps k h2 h3, h.ne, h.no⟩

/-- What may have changed behind the writer's work. -/
def WrG (w : World) (bw bv : Nat) (vv : Value) (s : EncS) (w' : World) : Prop :=
  ∃ vv', WrS w' bw bv vv' s ∧ Keeps (fun k => k = bw ∨ k = bv ∨ vv.ownBlock = some k) w w' ∧ (vv'.ownBlock = vv.ownBlock ∨ ∃ k, vv'.ownBlock = some k ∧ w.heap.size ≤ k)

/-- The vector has grown. -/
theorem WrS.grown {w w1 : World} {bw bv : Nat} {vv : Value} {s : EncS} {o : List Bool} (h : WrS w bw bv vv s) (hlt : bw < w.heap.size) (g : VecGrown w bv vv o w1) : WrG w bw bv vv { s with o := o } w1 := by
  obtain ⟨v', h1, h2, h3⟩ := g
  refine ⟨v', ⟨h.sp.keeps h2 (fun e => ?_), h1, h.ne, fun e => ?_⟩, h2.mono (fun _ _ e => .inr e), h3⟩
  · rcases e with e | e
    · exact h.ne e
    · exact h.no e
  · rcases h3 with e3 | ⟨k, e3, hk⟩
    · exact h.no (by rw [← e3]; exact e)
    · rw [e3] at e
      have := Option.some.inj e
      omega

theorem WrG.trans {w w1 w2 : World} {bw bv : Nat} {vv vv1 : Value} {s : EncS} (k : Keeps (fun k => k = bw ∨ k = bv ∨ vv.ownBlock = some k) w w1) (hv : vv1.ownBlock = vv.ownBlock ∨ ∃ k, vv1.ownBlock = some k ∧ w.heap.size ≤ k) (h : WrG w1 bw bv vv1 s w2) : WrG w bw bv vv s w2 := by
  obtain ⟨v2, h1, h2, h3⟩ := h
  refine ⟨v2, h1, k.trans h2 (fun x hx e => ?_), ?_⟩
  · rcases e with e | e | e
    · exact .inl e
    · exact .inr (.inl e)
    · rcases hv with e2 | ⟨q, e2, hq⟩
      · exact .inr (.inr (by rw [← e2]; exact e))
      · rw [e2] at e
        have := Option.some.inj e
        omega
  · rcases h3 with e3 | ⟨q, e3, hq⟩
    · rcases hv with e2 | ⟨q, e2, hq⟩
      · exact .inl (e3.trans e2)
      · exact .inr ⟨q, e3.trans e2, hq⟩
    · exact .inr ⟨q, e3, Nat.le_trans k.size hq⟩

end Go.Proofs.YtcfdpogegngplaaGreat

/- coder: writer.put. -/
namespace Go.Proofs.YtcfdpogegngplaaGreat
open Go.RowKit

theorem own_one64 (w : World) (z : Int) : Sl .i64 (w.alloc (.cells #[.int .i64 z] 3)) (.slice (some ⟨w.heap.size, 0, none⟩) 1 1) [z] := by
  have h1 := World.ownsRow_lit (base := w.heap.size) (e := 3) (size := 1) w #[.int .i64 z] 1 (Nat.le_refl _) (by unfold maxLen; omega) rfl
  exact (show OwnI w.heap.size (w.alloc (.cells #[.int .i64 z] 3)) (.slice (some ⟨w.heap.size, 0, none⟩) 1 1) [z] from h1).sl

end Go.Proofs.YtcfdpogegngplaaGreat

/- coder.Encode: the writer beside the model. -/
namespace Go.Proofs.YtcfdpogegngplaaGreat
open Go.RowKit

/-- The writer beside the model. -/
structure EncW (w : World) (bw bv bm gc : Nat) (vv : Value) (m : CM) (s : EncS) (W : World) : Prop where
  wr : WrS W bw bv vv s
  cm : CMAt W bm gc m
  ap : ∀ q, (q = bm ∨ q = gc) → q ≠ bw ∧ q ≠ bv ∧ vv.ownBlock ≠ some q
  lo : w.heap.size ≤ bw ∧ w.heap.size ≤ bv ∧ w.heap.size ≤ bm ∧ w.heap.size ≤ gc ∧ ∀ q, vv.ownBlock = some q → w.heap.size ≤ q
  kee : Keeps (fun _ => False) w W

section
variable {w : World} {bw bv bm gc : Nat} {vv : Value} {m : CM} {s : EncS} {W : World}

theorem EncW.still (h : EncW w bw bv bm gc vv m s W) {W' : World} (k : Keeps (fun _ => False) W W') : EncW w bw bv bm gc vv m s W' :=
  ⟨h.wr.keeps k (fun h => h) (fun h => h) (fun _ _ h => h), h.cm.keeps k (fun h => h) (fun h => h), h.ap, h.lo, h.kee.trans k (fun _ _ h => h)⟩

theorem EncW.put (h : EncW w bw bv bm gc vv m s W) {s' : EncS} {W' : World} (g : WrG W bw bv vv s' W') : ∃ vv', EncW w bw bv bm gc vv' m s' W' := by
  obtain ⟨v', h1, h2, h3⟩ := g
  have hbm : bm < W.heap.size := lt_of_block h.cm.1
  have hgc : gc < W.heap.size := by obtain ⟨arr, h, _⟩ := h.cm.2.1; exact lt_of_block h
  have hs := h.kee.size
  refine ⟨v', h1, h.cm.keeps h2 (fun e => ?_) (fun e => ?_), fun q hq => ?_, ⟨h.lo.1, h.lo.2.1, h.lo.2.2.1, h.lo.2.2.2.1, fun q hq => ?_⟩, h.kee.trans h2 (fun x hx e => ?_)⟩
  · obtain ⟨a, b, c⟩ := h.ap bm (.inl rfl)
    rcases e with e | e | e
    · exact a e
    · exact b e
    · exact c e
  · obtain ⟨a, b, c⟩ := h.ap gc (.inr rfl)
    rcases e with e | e | e
    · exact a e
    · exact b e
    · exact c e
  · obtain ⟨a, b, c⟩ := h.ap q hq
    refine ⟨a, b, fun e => ?_⟩
    rcases h3 with e3 | ⟨k, e3, hk⟩
    · exact c (by rw [← e3]; exact e)
    · rw [e3] at e
      have := Option.some.inj e
      rcases hq with rfl | rfl <;> omega
  · rcases h3 with e3 | ⟨k, e3, hk⟩
    · exact h.lo.2.2.2.2 q (by rw [← e3]; exact hq)
    · rw [e3] at hq
      have := Option.some.inj hq
      omega
  · have := h.lo
    rcases e with e | e | e
    · omega
    · omega
    · have := h.lo.2.2.2.2 x e; omega

theorem EncW.see (h : EncW w bw bv bm gc vv m s W) {m' : CM} {W' : World} (hM : CMAt W' bm gc m') (k : Keeps (fun q => q = bm ∨ q = gc) W W') : EncW w bw bv bm gc vv m' s W' := by
  refine ⟨h.wr.keeps k (fun e => ?_) (fun e => ?_) (fun q hq e => (h.ap q e).2.2 hq), hM, h.ap, h.lo, h.kee.trans k (fun x hx e => by have := h.lo; omega)⟩
  · exact (h.ap bw e).1 rfl
  · exact (h.ap bv e).2.1 rfl

end

end Go.Proofs.YtcfdpogegngplaaGreat
