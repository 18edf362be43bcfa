/- Joined texts: Names, TDec. -/
import Derived.Test.YtcfdpogegngplaaGreatPzWalks
import Derived.Test.YtcfdpogegngplaaGreatPzRight
/- The contracts of package turan: names of a word's places; turns. -/
namespace Go.Proofs.YtcfdpogegngplaaGreat
open Go.RowKit

/-- An index beside a slice of the call's own at block g, and a box at block bx. -/
structure NS (w : World) (bm bo : Nat) (bi bp : Nat → Nat) (ks : List Nat) (F : Nat → Prop) (g bx q : Nat) (P : List Int → Prop) (wr : World) : Prop where
  mx : ∃ F', MixP wr bm bo bi bp ks q F' ∧ (∀ x, F' x → F x ∨ (w.heap.size ≤ x ∧ x < wr.heap.size)) ∧ ¬ F' g ∧ ¬ F' bx
  sl : ∃ zs, zs.length = ks.length ∧ P zs ∧ OwnI w.heap.size wr (.slice (some ⟨g, 0, none⟩) ks.length ks.length) zs
  bxh : wr.heap[bx]? = some (.cells #[.pointer (some ⟨bm, 0, none⟩)] 298 (0, 0))
  gx : g ≠ bx ∧ w.heap.size ≤ g ∧ w.heap.size ≤ bx
  kee : Keeps F w wr
  old : ∀ x, F x → x < w.heap.size

section
variable {w : World} {bm bo : Nat} {bi bp : Nat → Nat} {ks : List Nat} {F : Nat → Prop} {g bx q : Nat} {P : List Int → Prop} {wr : World} (h : NS w bm bo bi bp ks F g bx q P wr)
include h

theorem NS.lts : g < wr.heap.size ∧ bx < wr.heap.size := by
  obtain ⟨zs, _, _, h3⟩ := h.sl
  exact ⟨(h3.lt g rfl).2, lt_of_block h.bxh⟩

/-- Behind a question. -/
theorem NS.ask : ∃ F', MixP wr bm bo bi bp ks q F' ∧ (∀ x, F' x → x < wr.heap.size) ∧ ∀ q' w2, MixQ wr bm bo bi bp ks q' F' w2 → NS w bm bo bi bp ks F g bx q' P w2 := by
  obtain ⟨F', h1, h2, h3, h4⟩ := h.mx
  obtain ⟨l1, l2⟩ := h.lts
  obtain ⟨g1, g2, g3⟩ := h.gx
  obtain ⟨zs, z1, z2, z3⟩ := h.sl
  refine ⟨F', h1, h1.old, fun q' w2 hq => ⟨⟨grow F' wr w2, hq.1, fun x hx => ?_, fun hx => ?_, fun hx => ?_⟩, ⟨zs, z1, z2, z3.keeps hq.2 (fun k hk e => by simp only [Value.ownBlock, Option.some.injEq] at hk; subst hk; exact h3 e)⟩, hq.2.at h.bxh h4, h.gx, h.kee.trans hq.2 (fun x hx e => ?_), h.old⟩⟩
  · have hs := h.kee.size
    have hs2 := hq.2.size
    rcases hx with hx | hx
    · rcases h2 x hx with e | e
      · exact .inl e
      · exact .inr ⟨e.1, by omega⟩
    · exact .inr ⟨by omega, hx.2⟩
  · rcases hx with hx | hx
    · exact h3 hx
    · omega
  · rcases hx with hx | hx
    · exact h4 hx
    · omega
  · rcases h2 x e with e | e
    · exact e
    · omega

theorem NS.set {Q : List Int → Prop} (i : Nat) (z : Int) (hQ : ∀ zs, zs.length = ks.length → P zs → Q (zs.set i z)) : NS w bm bo bi bp ks F g bx q Q (wr.setCell ⟨g, i, none⟩ (.int .i64 z)) := by
  obtain ⟨F', h1, h2, h3, h4⟩ := h.mx
  obtain ⟨g1, g2, g3⟩ := h.gx
  obtain ⟨zs, z1, z2, z3⟩ := h.sl
  have kk := (Keeps.refl (fun x => x = g) wr).setCell (p := ⟨g, i, none⟩) (.inl rfl) (.int .i64 z)
  have hs2 := kk.size
  refine ⟨⟨F', h1.keeps kk (fun x hx e => h3 (e ▸ hx)), fun x hx => ?_, h3, h4⟩, ⟨zs.set i z, by simpa using z1, hQ zs z1 z2, z3.set i z⟩, kk.at h.bxh (fun e => g1 e.symm), h.gx, h.kee.trans kk (fun x hx e => by omega), h.old⟩
  rcases h2 x hx with e | e
  · exact .inl e
  · exact .inr ⟨e.1, by omega⟩

theorem NS.cell {i : Nat} (hi : i < ks.length) : ∃ z : Int, (∃ zs, zs.length = ks.length ∧ P zs ∧ zs[i]? = some z) ∧ wr.cell? ⟨g, i, none⟩ = some (.int .i64 z) ∧ wr.frozen? ⟨g, i, none⟩ = false := by
  obtain ⟨zs, h1, h2, h3⟩ := h.sl
  have hz := List.getElem?_eq_getElem (l := zs) (i := i) (by omega)
  exact ⟨_, ⟨zs, h1, h2, hz⟩, h3.cell hz⟩

theorem NS.mono {Q : List Int → Prop} {q' : Nat} (hq : q ≤ q') (hQ : ∀ zs, zs.length = ks.length → P zs → Q zs) : NS w bm bo bi bp ks F g bx q' Q wr := by
  obtain ⟨F', h1, h2⟩ := h.mx
  obtain ⟨zs, z1, z2, z3⟩ := h.sl
  exact ⟨⟨F', h1.more hq, h2⟩, ⟨zs, z1, hQ zs z1 z2, z3⟩, h.bxh, h.gx, h.kee, h.old⟩

theorem NS.drewN (n : Nat) : NS w bm bo bi bp ks F g bx q P (wr.drewN n) := by
  obtain ⟨F', h1, h2, h3, h4⟩ := h.mx
  obtain ⟨zs, z1, z2, z3⟩ := h.sl
  have kk := (Keeps.refl (fun _ => False) wr).drewN n
  exact ⟨⟨F', h1.keeps kk (fun _ _ h => h), h2, h3, h4⟩, ⟨zs, z1, z2, z3.keeps kk (fun _ _ h => h)⟩, kk.at h.bxh (fun h => h), h.gx, h.kee.drewN n, h.old⟩
end

end Go.Proofs.YtcfdpogegngplaaGreat

/- The contracts of package turan: Names; Decode. -/
namespace Go.Proofs.YtcfdpogegngplaaGreat
open Go.RowKit

/-- The index, the turns so far, and the names. -/
structure DS (w : World) (bm bo : Nat) (bi bp : Nat → Nat) (ks : List Nat) (g bx gN q : Nat) (P : List Int → Prop) (wr : World) : Prop where
  mx : ∃ F', MixP wr bm bo bi bp ks q F' ∧ (∀ x, F' x → w.heap.size ≤ x ∧ x < wr.heap.size) ∧ ¬ F' g ∧ ¬ F' bx ∧ ¬ F' gN
  sl : MadeS w g ks.length P wr
  bxh : wr.heap[bx]? = some (.cells #[.pointer (some ⟨bm, 0, none⟩)] 298 (0, 0))
  nm : OwnI w.heap.size wr (.slice (some ⟨gN, 0, none⟩) ks.length ks.length) (nats ((List.range ks.length).map (nmD ks)))
  gx : g ≠ bx ∧ g ≠ gN ∧ w.heap.size ≤ bx

section
variable {w : World} {bm bo : Nat} {bi bp : Nat → Nat} {ks : List Nat} {g bx gN q : Nat} {P : List Int → Prop} {wr : World} (h : DS w bm bo bi bp ks g bx gN q P wr)
include h

theorem DS.ask : ∃ F', MixP wr bm bo bi bp ks q F' ∧ ∀ q' w2, MixQ wr bm bo bi bp ks q' F' w2 → DS w bm bo bi bp ks g bx gN q' P w2 := by
  obtain ⟨F', h1, h2, h3, h4, h5⟩ := h.mx
  have hg := h.sl.old
  have hn := (h.nm.lt gN rfl).2
  have hb := lt_of_block h.bxh
  refine ⟨F', h1, fun q' w2 hq => ⟨⟨grow F' wr w2, hq.1, fun x hx => ?_, fun hx => ?_, fun hx => ?_, fun hx => ?_⟩, h.sl.keepsF hq.2 h3 (fun x hx => (h2 x hx).1), hq.2.at h.bxh h4, h.nm.keeps hq.2 (fun k hk e => by simp only [Value.ownBlock, Option.some.injEq] at hk; subst hk; exact h5 e), h.gx⟩⟩
  · obtain ⟨_, _, _, _, hk⟩ := h.sl
    have hs := hk.size
    have hs2 := hq.2.size
    rcases hx with hx | hx
    · have := h2 x hx; exact ⟨this.1, by omega⟩
    · exact ⟨by omega, hx.2⟩
  · rcases hx with hx | hx
    · exact h3 hx
    · omega
  · rcases hx with hx | hx
    · exact h4 hx
    · omega
  · rcases hx with hx | hx
    · exact h5 hx
    · omega

theorem DS.set {Q : List Int → Prop} (i : Nat) (z : Int) (hQ : ∀ zs, zs.length = ks.length → P zs → Q (zs.set i z)) : DS w bm bo bi bp ks g bx gN q Q (wr.setCell ⟨g, i, none⟩ (.int .i64 z)) := by
  obtain ⟨F', h1, h2, h3, h4, h5⟩ := h.mx
  obtain ⟨g1, g2, g3⟩ := h.gx
  have kk := (Keeps.refl (fun x => x = g) wr).setCell (p := ⟨g, i, none⟩) (.inl rfl) (.int .i64 z)
  have hs2 := kk.size
  exact ⟨⟨F', h1.keeps kk (fun x hx e => h3 (e ▸ hx)), fun x hx => ⟨(h2 x hx).1, by have := (h2 x hx).2; omega⟩, h3, h4, h5⟩, h.sl.set i z hQ, kk.at h.bxh (fun e => g1 e.symm), h.nm.keeps kk (fun k hk e => by simp only [Value.ownBlock, Option.some.injEq] at hk; omega), h.gx⟩

theorem DS.more {q' : Nat} (hq : q ≤ q') : DS w bm bo bi bp ks g bx gN q' P wr := by
  obtain ⟨F', h1, h2⟩ := h.mx
  exact ⟨⟨F', h1.more hq, h2⟩, h.sl, h.bxh, h.nm, h.gx⟩
end

/-- The turns of the first places. -/
def DecJ (ks : List Nat) (j : Nat) (zs : List Int) : Prop := ∀ i, i < j → zs[nmD ks i]? = some ((nmD ks (tn ks i) : Nat) : Int)

theorem DecJ.step {ks : List Nat} {j : Nat} {zs : List Int} (hW : Wd ks) (hj : j < ks.length) (hl : zs.length = ks.length) (h : DecJ ks j zs) : DecJ ks (j + 1) (zs.set (nmD ks j) ((nmD ks (tn ks j) : Nat) : Int)) := fun i hi => by
  rw [List.getElem?_set]
  by_cases e : nmD ks j = nmD ks i
  · have := hW.nm_isP.inj _ _ hj (by omega) e
    subst this
    rw [if_pos rfl, if_pos (by rw [hl]; exact hW.nm_lt hj)]
  · rw [if_neg e]
    refine h i ?_
    rcases Nat.lt_or_ge i j with h1 | h1
    · exact h1
    · obtain rfl : i = j := by omega
      exact absurd rfl e

theorem DecJ.done {ks : List Nat} {zs : List Int} (hW : Wd ks) (hl : zs.length = ks.length) (h : DecJ ks ks.length zs) : zs = nats (decL ks) := by
  apply List.ext_getElem?
  intro d
  rcases Nat.lt_or_ge d ks.length with hd | hd
  · obtain ⟨i, hi, rfl⟩ := hW.nm_isP.back hd
    rw [h i hi, ← hW.sD_nm hi]
    have : (decL ks)[nmD ks i]? = some (sD ks (nmD ks i)) := by simp [decL, hd]
    rw [nats_get this]
  · rw [List.getElem?_eq_none (by omega), List.getElem?_eq_none (by rw [nats_len, decL_length]; exact hd)]

theorem MadeMap.base {w0 w w' : World} {s : List Nat} {root lone : Int} {e : Ending} (h : MadeMap w s root lone e w') (k : Keeps (fun _ => False) w0 w) : MadeMap w0 s root lone e w' := by
  obtain ⟨b, h1, h2, h3, h4⟩ := h
  have hs := k.size
  exact ⟨b, h1, h2.mono (fun x hx => ⟨by omega, hx.2⟩) (fun x hx => hx.2.1) (fun hx => hx.2.2 rfl), by omega, k.trans h4 (fun _ _ h => h)⟩

end Go.Proofs.YtcfdpogegngplaaGreat
