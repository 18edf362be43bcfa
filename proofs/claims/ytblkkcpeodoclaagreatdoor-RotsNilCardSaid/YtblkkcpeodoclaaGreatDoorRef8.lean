/- The references of layer 8: the parts' names. -/
import Derived.Test.YtblkkcpeodoclaaGreatDoorConn
import Derived.Deep.CutRange
namespace Go.Proofs.YtblkkcpeodoclaaGreatDoor
open Go.RowKit

/-- A map that lies boxed. -/
def BxM (bx : Nat) (sv : Value) (rt ln : Int) (wr : World) : Prop := wr.heap[bx]? = some (.cells #[sv, .int .i64 rt, .int .i64 ln] 35 (0, 0))
theorem BxM.keeps {bx : Nat} {sv : Value} {rt ln : Int} {wr w1 : World} {F : Nat → Prop} (h : BxM bx sv rt ln wr) (hk : Keeps F wr w1) (hF : ¬ F bx) : BxM bx sv rt ln w1 := hk.at h hF
theorem BxM.cell {bx : Nat} {sv : Value} {rt ln : Int} {wr : World} (h : BxM bx sv rt ln wr) : wr.cell? ⟨bx, 0, none⟩ = some sv := World.cell_of_heap h 0
theorem BxM.set {bx g : Nat} {sv : Value} {rt ln : Int} {wr : World} (h : BxM bx sv rt ln wr) (hg : g ≠ bx) (i : Nat) (u : Value) : BxM bx sv rt ln (wr.setCell ⟨g, i, none⟩ u) :=
  ((Keeps.refl (fun q => q = g) wr).setCell (p := ⟨g, i, none⟩) (.inl rfl) u).at h (fun e => hg e.symm)

theorem MadeS.made' {w wr : World} (hk : Keeps (fun _ => False) w wr) (n : Nat) (P : List Int → Prop) (hP : P (List.replicate n 0)) (hn : n ≤ 100000000) : MadeS w wr.heap.size n P (wr.alloc (.cells (madeCells #[.int .i64 0] n) 3)) :=
  ⟨_, by simp, hP, OwnI.made w.heap.size wr n hk.size hn, hk.alloc _⟩

theorem MadeS.keepsF {w wr w1 : World} {g n : Nat} {P : List Int → Prop} {F : Nat → Prop} (h : MadeS w g n P wr) (hk : Keeps F wr w1) (hg : ¬ F g) (hF : ∀ x, F x → w.heap.size ≤ x) : MadeS w g n P w1 := by
  obtain ⟨zs, h1, h2, h3, h4⟩ := h
  exact ⟨zs, h1, h2, h3.keeps hk (fun x hx e => by simp only [Value.ownBlock, Option.some.injEq] at hx; subst hx; exact hg e), h4.trans hk (fun x hx e => by have := hF x e; omega)⟩

/-- One pass over the darts, and the two neighbours of one. -/
structure PassS (n : Nat) (S : Nat → Nat) (nm0 : List Nat) (d k : Nat) (t : Bool) (nm : List Nat) : Prop where
  nmc : NmC n S nm
  same : t = false → nm = nm0 ∧ (∀ e, e < d → nm0.getD (S e) 0 = nm0.getD e 0 ∧ nm0.getD (mt e) 0 = nm0.getD e 0) ∧ (1 ≤ k → nm0.getD (S d) 0 = nm0.getD d 0) ∧ (2 ≤ k → nm0.getD (mt d) 0 = nm0.getD d 0)
  less : t = true → nm.sum < nm0.sum

theorem PassS.sum_le {n : Nat} {S : Nat → Nat} {nm0 nm : List Nat} {d k : Nat} {t : Bool} (h : PassS n S nm0 d k t nm) : nm.sum ≤ nm0.sum := by
  cases t
  · rw [(h.same rfl).1]; exact Nat.le_refl _
  · exact Nat.le_of_lt (h.less rfl)

theorem PassS.lower {n : Nat} {S : Nat → Nat} {nm0 nm : List Nat} {d k a v : Nat} {t : Bool} (h : PassS n S nm0 d k t nm) (ha : a < n) (hv : v < nm.getD a 0) (hc : Conn n S a v) : PassS n S nm0 d (k + 1) true (nm.set a v) := by
  obtain ⟨g1, g2, g3⟩ := h.nmc.get ha
  refine ⟨h.nmc.set ha (by omega) hc, (fun e => by cases e), fun _ => ?_⟩
  have := sum_set_lt g1 hv
  have := h.sum_le
  omega

theorem PassS.equal {n : Nat} {S : Nat → Nat} {nm0 nm : List Nat} {d k x : Nat} {t : Bool} (h : PassS n S nm0 d k t nm) (hx : (k = 0 ∧ x = S d) ∨ (k = 1 ∧ x = mt d)) (heq : nm.getD x 0 = nm.getD d 0) : PassS n S nm0 d (k + 1) t nm := by
  refine ⟨h.nmc, fun ht => ?_, h.less⟩
  obtain ⟨h1, h2, h3, h4⟩ := h.same ht
  subst h1
  refine ⟨rfl, h2, fun _ => ?_, fun hk => ?_⟩
  · rcases hx with ⟨rfl, rfl⟩ | ⟨rfl, rfl⟩
    · exact heq
    · exact h3 (by omega)
  · rcases hx with ⟨rfl, rfl⟩ | ⟨rfl, rfl⟩
    · omega
    · exact heq

theorem PassS.next {n : Nat} {S : Nat → Nat} {nm0 nm : List Nat} {d : Nat} {t : Bool} (h : PassS n S nm0 d 2 t nm) : PassS n S nm0 (d + 1) 0 t nm := by
  refine ⟨h.nmc, fun ht => ?_, h.less⟩
  obtain ⟨h1, h2, h3, h4⟩ := h.same ht
  refine ⟨h1, fun e he => ?_, fun hk => by omega, fun hk => by omega⟩
  by_cases hed : e = d
  · subst hed; exact ⟨h3 (by omega), h4 (by omega)⟩
  · exact h2 e (by omega)

/-- What the second half has laid. -/
def OutP (s : List Nat) (j : Nat) (zs : List Int) : Prop := ∀ i, i < j → zs[i]? = some ((cnum s.length (sg s) i : Nat) : Int)

theorem OutP.step {s : List Nat} {j : Nat} {zs : List Int} (hl : zs.length = s.length) (hj : j < s.length) (h : OutP s j zs) : OutP s (j + 1) (zs.set j ((cnum s.length (sg s) j : Nat) : Int)) := by
  intro i hi
  rw [List.getElem?_set]
  by_cases hij : j = i
  · subst hij; rw [if_pos rfl, if_pos (by omega)]
  · rw [if_neg hij]; exact h i (by omega)

theorem OutP.all {s : List Nat} {zs : List Int} (hl : zs.length = s.length) (h : OutP s s.length zs) : zs = nats ((List.range s.length).map (cnum s.length (sg s))) := by
  apply List.ext_getElem?
  intro e
  rcases Nat.lt_or_ge e s.length with he | he
  · rw [h e he]; simp [nats, he]
  · rw [List.getElem?_eq_none (by omega), List.getElem?_eq_none (by simp [nats]; exact he)]

def IniP (j : Nat) (zs : List Int) : Prop := ∀ i : Nat, i < j → zs[i]? = some (i : Int)
theorem IniP.step {j : Nat} {zs : List Int} (hj : j < zs.length) (h : IniP j zs) : IniP (j + 1) (zs.set j (j : Int)) := by
  intro i hi
  rw [List.getElem?_set]
  by_cases hij : j = i
  · subst hij; rw [if_pos rfl, if_pos hj]
  · rw [if_neg hij]; exact h i (by omega)
theorem IniP.all {n : Nat} {zs : List Int} (hl : zs.length = n) (h : IniP n zs) : zs = nats (List.range n) := by
  apply List.ext_getElem?
  intro e
  rcases Nat.lt_or_ge e n with he | he
  · rw [h e he]; simp [nats, he]
  · rw [List.getElem?_eq_none (by omega), List.getElem?_eq_none (by simp [nats]; exact he)]

/-- Names that lie at a block. -/
def NamAt (w : World) (g n : Nat) (S : Nat → Nat) (nm : List Nat) (wr : World) : Prop := MadeS w g n (fun zs => zs = nats nm) wr ∧ NmC n S nm

theorem NamAt.cell {w wr : World} {g n : Nat} {S : Nat → Nat} {nm : List Nat} (h : NamAt w g n S nm wr) {d : Nat} (hd : d < n) : wr.cell? ⟨g, d, none⟩ = some (.int .i64 (nm.getD d 0 : Nat)) ∧ wr.frozen? ⟨g, d, none⟩ = false := by
  obtain ⟨z, ⟨zs, _, rfl, hz⟩, h1, h2⟩ := h.1.cell d hd
  rw [nats_get (h.2.get hd).1] at hz
  simp only [Option.some.injEq] at hz
  subst hz
  exact ⟨h1, h2⟩

theorem NamAt.set {w wr : World} {g n : Nat} {S : Nat → Nat} {nm : List Nat} (h : NamAt w g n S nm wr) {d v : Nat} (hn : NmC n S (nm.set d v)) : NamAt w g n S (nm.set d v) (wr.setCell ⟨g, d, none⟩ (.int .i64 v)) := by
  refine ⟨h.1.set d v (fun zs _ h => ?_), hn⟩
  rw [h]; simp [nats, List.map_set]

theorem NamAt.keeps {w wr w1 : World} {g n : Nat} {S : Nat → Nat} {nm : List Nat} (h : NamAt w g n S nm wr) (hk : Keeps (fun _ => False) wr w1) : NamAt w g n S nm w1 := ⟨h.1.keeps hk, h.2⟩

end Go.Proofs.YtblkkcpeodoclaaGreatDoor
