/- The references of layer 13: Of, a word's map by places. -/
import Derived.Test.YtipelclohcdkcaaGreatPsPlane
import Derived.Test.YtipelclohcdkcaaGreatPsVx
namespace Go.Proofs.YtipelclohcdkcaaGreat
open Go.RowKit

noncomputable def nmL (ks : List Nat) : List Nat := (List.range ks.length).map (nmD ks)
noncomputable def tnL (ks : List Nat) : List Nat := (List.range ks.length).map (tn ks)
/-- What the first j of a slice hold. -/
def Fst13 (f : Nat → Nat) (j : Nat) (zs : List Int) : Prop := ∀ i, i < j → zs[i]? = some ((f i : Nat) : Int)
theorem Fst13.step {f : Nat → Nat} {j : Nat} {zs : List Int} (hj : j < zs.length) (h : Fst13 f j zs) : Fst13 f (j + 1) (zs.set j ((f j : Nat) : Int)) := by
  intro i hi
  rw [List.getElem?_set]
  by_cases hij : j = i
  · subst hij; rw [if_pos rfl, if_pos hj]
  · rw [if_neg hij]; exact h i (by omega)
theorem Fst13.all {f : Nat → Nat} {n : Nat} {zs : List Int} (hl : zs.length = n) (h : Fst13 f n zs) : zs = nats ((List.range n).map f) := by
  apply List.ext_getElem?
  intro e
  rcases Nat.lt_or_ge e n with he | he
  · rw [h e he]; simp [nats, he]
  · rw [List.getElem?_eq_none (by omega), List.getElem?_eq_none (by simp [nats]; exact he)]

def Neg13 (j : Nat) (zs : List Int) : Prop := ∀ i, i < j → zs[i]? = some (-1)
theorem Neg13.step {j : Nat} {zs : List Int} (hj : j < zs.length) (h : Neg13 j zs) : Neg13 (j + 1) (zs.set j (-1)) := by
  intro i hi
  rw [List.getElem?_set]
  by_cases hij : j = i
  · subst hij; rw [if_pos rfl, if_pos hj]
  · rw [if_neg hij]; exact h i (by omega)

/-- The boxed map of places. -/
def B13 (b6 gS gM gV n : Nat) (fv : Value) (wr : World) : Prop := wr.heap[b6]? = some (.cells #[.slice (some ⟨gS, 0, none⟩) n n, .slice (some ⟨gM, 0, none⟩) n n, .slice (some ⟨gV, 0, none⟩) n n, fv] 48 (0, 0))

theorem B13.keeps' {b6 gS gM gV n : Nat} {fv : Value} {w w' : World} (h : B13 b6 gS gM gV n fv w) (k : Keeps (fun _ => False) w w') : B13 b6 gS gM gV n fv w' := k.at h (fun h => h)

/-- Behind the first region. -/
structure O13 (w2 : World) (b6 gS gM gV n : Nat) (wz : World) : Prop where
  s : MadeS w2 gS n (fun _ => True) wz
  m : MadeS w2 gM n (fun _ => True) wz
  v : MadeS w2 gV n (fun _ => True) wz
  b : B13 b6 gS gM gV n (.slice none 0 0) wz
  d : gS ≠ gM ∧ gS ≠ gV ∧ gM ≠ gV ∧ b6 ≠ gS ∧ b6 ≠ gM ∧ b6 ≠ gV ∧ w2.heap.size ≤ b6

theorem MadeS.ofHeap {w wr : World} {g n : Nat} (hn : n ≤ 100000000) (hg : w.heap.size ≤ g) (h : wr.heap[g]? = some (.cells (madeCells #[.int .i64 0] n) 3 (0, 0))) (hk : Keeps (fun _ => False) w wr) : MadeS w g n (fun _ => True) wr := by
  refine ⟨List.replicate n 0, by simp, trivial, ⟨by simp [ints], .inr ⟨g, n, _, by simp, hg, h, by simp, by unfold maxLen; omega, by rw [size_madeCells]; simp, ?_⟩⟩, hk⟩
  rw [toList_madeCells_one]
  simp [ints]

theorem O13.of {w2 wz : World} {b6 gS gM gV n : Nat} (hb : B13 b6 gS gM gV n (.slice none 0 0) wz) (hs : wz.heap[gS]? = some (.cells (madeCells #[.int .i64 0] n) 3 (0, 0))) (hm : wz.heap[gM]? = some (.cells (madeCells #[.int .i64 0] n) 3 (0, 0))) (hv : wz.heap[gV]? = some (.cells (madeCells #[.int .i64 0] n) 3 (0, 0)))
    (hk : Keeps (fun _ => False) w2 wz) (hn : n ≤ 100000000) (hl : w2.heap.size ≤ gS ∧ w2.heap.size ≤ gM ∧ w2.heap.size ≤ gV) (hd : gS ≠ gM ∧ gS ≠ gV ∧ gM ≠ gV ∧ b6 ≠ gS ∧ b6 ≠ gM ∧ b6 ≠ gV ∧ w2.heap.size ≤ b6) : O13 w2 b6 gS gM gV n wz :=
  ⟨MadeS.ofHeap hn hl.1 hs hk, MadeS.ofHeap hn hl.2.1 hm hk, MadeS.ofHeap hn hl.2.2 hv hk, hb, hd⟩

/-- The first ones of the orbits, below j. -/
noncomputable def fsL (s : List Nat) (j : Nat) : List Nat := (List.range j).filter fun d => rep (sg s) d == d
/-- Between two rounds of the last loop. -/
def L13 (wb : World) (gS gM gV b6 n : Nat) (ks : List Nat) (fs : List Nat) (P : List Int → Prop) (fv : Value) (wr : World) : Prop :=
  (MadeS wb gS n (fun zs => zs = nats (tnL ks)) wr ∧ MadeS wb gM n (fun zs => zs = nats ((List.range n).map (mp ks))) wr) ∧ MadeS wb gV n P wr ∧ B13 b6 gS gM gV n fv wr ∧ OwnI wb.heap.size wr fv (nats fs) ∧ ∀ q, fv.ownBlock = some q → q ≠ gS ∧ q ≠ gM ∧ q ≠ gV ∧ q ≠ b6

theorem L13.keeps {wb wr w1 : World} {gS gM gV b6 n : Nat} {ks fs : List Nat} {P : List Int → Prop} {fv : Value} (h : L13 wb gS gM gV b6 n ks fs P fv wr) (k : Keeps (fun _ => False) wr w1) : L13 wb gS gM gV b6 n ks fs P fv w1 :=
  ⟨⟨h.1.1.keeps k, h.1.2.keeps k⟩, h.2.1.keeps k, h.2.2.1.keeps' k, h.2.2.2.1.keeps k (fun _ _ h => h), h.2.2.2.2⟩

theorem L13.set {wb wr : World} {gS gM gV b6 n : Nat} {ks fs : List Nat} {P Q : List Int → Prop} {fv : Value} (h : L13 wb gS gM gV b6 n ks fs P fv wr) (hd : gS ≠ gV ∧ gM ≠ gV ∧ b6 ≠ gV) (i : Nat) (z : Int) (hQ : ∀ zs, zs.length = n → P zs → Q (zs.set i z)) :
    L13 wb gS gM gV b6 n ks fs Q fv (wr.setCell ⟨gV, i, none⟩ (.int .i64 z)) := by
  have kset := (Keeps.refl (fun q => q = gV) wr).setCell (p := ⟨gV, i, none⟩) (.inl rfl) (.int .i64 z)
  have ho := h.2.1.old.1
  exact ⟨⟨h.1.1.keepsF kset hd.1 (fun x hx => by subst hx; exact ho), h.1.2.keepsF kset hd.2.1 (fun x hx => by subst hx; exact ho)⟩, h.2.1.set i z hQ, kset.at h.2.2.1 hd.2.2, h.2.2.2.1.keeps kset (fun q hq e => (h.2.2.2.2 q hq).2.2.1 e), h.2.2.2.2⟩

theorem L13.push {wb wr w9 : World} {gS gM gV b6 n g2 cap2 c : Nat} {ks fs fs' : List Nat} {P : List Int → Prop} {fv : Value} (h : L13 wb gS gM gV b6 n ks fs P fv wr) (hd : b6 ≠ gS ∧ b6 ≠ gM ∧ b6 ≠ gV ∧ wb.heap.size ≤ b6)
    (ho : OwnI wb.heap.size w9 (.slice (some ⟨g2, 0, none⟩) c cap2) (nats fs')) (hk : Keeps (fun q => fv.ownBlock = some q) wr w9) (hat : fv.ownBlock = some g2 ∨ wr.heap.size ≤ g2) :
    B13 b6 gS gM gV n fv w9 ∧ L13 wb gS gM gV b6 n ks fs' P (.slice (some ⟨g2, 0, none⟩) c cap2) (w9.setCell ⟨b6, 3, none⟩ (.slice (some ⟨g2, 0, none⟩) c cap2)) := by
  obtain ⟨⟨h1, h2⟩, h3, h4, h5, h6⟩ := h
  have hbase : ∀ x, fv.ownBlock = some x → wb.heap.size ≤ x := fun x hx => (h5.lt x hx).1
  have h4' := hk.at h4 (fun e => (h6 _ e).2.2.2 rfl)
  have kset := (Keeps.refl (fun q => q = b6) w9).setCell (p := ⟨b6, 3, none⟩) (.inl rfl) (.slice (some ⟨g2, 0, none⟩) c cap2)
  have hg2 : g2 ≠ gS ∧ g2 ≠ gM ∧ g2 ≠ gV ∧ g2 ≠ b6 := by
    rcases hat with h | h
    · exact h6 _ h
    · have := h1.old.2; have := h2.old.2; have := h3.old.2; have := lt_of_block h4
      exact ⟨by omega, by omega, by omega, by omega⟩
  refine ⟨h4', ⟨(h1.keepsF hk (fun e => (h6 _ e).1 rfl) hbase).keepsF kset (fun e => hd.1 e.symm) (fun x hx => by subst hx; exact hd.2.2.2), (h2.keepsF hk (fun e => (h6 _ e).2.1 rfl) hbase).keepsF kset (fun e => hd.2.1 e.symm) (fun x hx => by subst hx; exact hd.2.2.2)⟩, (h3.keepsF hk (fun e => (h6 _ e).2.2.1 rfl) hbase).keepsF kset (fun e => hd.2.2.1 e.symm) (fun x hx => by subst hx; exact hd.2.2.2), heap_setCell_same h4' 3 _, ho.keeps kset (fun q hq e => by
    simp only [Value.ownBlock, Option.some.injEq] at hq
    subst hq
    exact hg2.2.2.2 e), fun q hq => ?_⟩
  simp only [Value.ownBlock, Option.some.injEq] at hq
  subst hq
  exact hg2

end Go.Proofs.YtipelclohcdkcaaGreat
