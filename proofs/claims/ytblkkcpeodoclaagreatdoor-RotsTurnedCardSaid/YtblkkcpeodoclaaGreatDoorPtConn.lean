/- Plain laws of the parts of a map: which darts come together, their names. No program is named here. -/
import Derived.Deep.RegionLaw
import Derived.Shelf.Strings.Builder1
import Derived.Test.YtblkkcpeodoclaaGreatDoorProg
import Derived.Test.YtblkkcpeodoclaaGreatDoorPtRef4
import Derived.Test.YtblkkcpeodoclaaGreatDoorPtDfsW
/- The references of layers 5, 6: orbits, names, inverses, mates. -/
namespace Go.Proofs.YtblkkcpeodoclaaGreatDoor
open Go.RowKit

/-- A list as what it takes numbers to. -/
def sg (s : List Nat) (d : Nat) : Nat := s.getD d 0
theorem sg_get {s : List Nat} {d : Nat} (h : d < s.length) : s[d]? = some (sg s d) := by
  rw [sg, List.getD_eq_getElem?_getD, List.getElem?_eq_getElem h]; rfl

/-- The first so many of an orbit. -/
def orbK (S : Nat → Nat) (d k : Nat) : List Nat := (List.range k).map fun i => itr S i d
theorem orbK_succ (S : Nat → Nat) (d k : Nat) : orbK S d (k + 1) = orbK S d k ++ [itr S k d] := by simp [orbK, List.range_succ]
theorem orbK_length (S : Nat → Nat) (d k : Nat) : (orbK S d k).length = k := by simp [orbK]
theorem nats_snoc (l : List Nat) (x : Nat) : nats (l ++ [x]) = nats l ++ [(x : Int)] := by simp [nats]

theorem own_one (w : World) (z : Int) : OwnI w.heap.size (w.alloc (.cells #[.int .i64 z] 3)) (.slice (some ⟨w.heap.size, 0, none⟩) 1 1) [z] := by
  have h1 := World.ownsRow_lit (base := w.heap.size) (e := 3) (size := 1) w #[.int .i64 z] 1 (Nat.le_refl _) (by unfold maxLen; omega) rfl
  exact h1

end Go.Proofs.YtblkkcpeodoclaaGreatDoor

/- The references of layers 5, 6: mates, inverses, names. -/
namespace Go.Proofs.YtblkkcpeodoclaaGreatDoor
open Go.RowKit

theorem Sl.cellAt {k : IntKind} {w : World} {a : Option Addr} {n cap : Nat} {zs : List Int} (h : Sl k w (.slice a n cap) zs) {j : Nat} {z : Int} (hz : zs[j]? = some z) : ∃ g off, a = some ⟨g, off, none⟩ ∧ w.cell? ⟨g, off + j, none⟩ = some (.int k z) := by
  obtain ⟨a', cap', hq, _, _, _, hc⟩ := h
  simp only [Value.slice.injEq] at hq
  obtain ⟨rfl, -, rfl⟩ := hq
  exact hc j z hz

theorem Sl.cellOf {k : IntKind} {w : World} {g off n cap : Nat} {zs : List Int} (h : Sl k w (.slice (some ⟨g, off, none⟩) n cap) zs) {j : Nat} {z : Int} (hz : zs[j]? = some z) : w.cell? ⟨g, off + j, none⟩ = some (.int k z) := by
  obtain ⟨g', off', hq, hc⟩ := h.cellAt hz
  simp only [Option.some.injEq, Addr.mk.injEq, and_true] at hq
  obtain ⟨rfl, rfl⟩ := hq
  exact hc

theorem Sl.form {k : IntKind} {w : World} {sv : Value} {zs : List Int} (h : Sl k w sv zs) : ∃ a cap, sv = .slice a zs.length cap ∧ zs.length ≤ cap ∧ cap ≤ 9223372036854775807 := by
  obtain ⟨a, cap, h1, h2, h3, _⟩ := h
  exact ⟨a, cap, h1, h2, h3⟩

theorem nats_at {s : List Nat} {d : Nat} (h : d < s.length) : (nats s)[d]? = some ((sg s d : Nat) : Int) := nats_get (sg_get h)

/-- A slice of so many ints that a call has made at block g: what it holds. -/
def MadeS (w : World) (g n : Nat) (P : List Int → Prop) (wr : World) : Prop :=
  ∃ zs, zs.length = n ∧ P zs ∧ OwnI w.heap.size wr (.slice (some ⟨g, 0, none⟩) n n) zs ∧ Keeps (fun _ => False) w wr

theorem MadeS.made (w : World) (n : Nat) (P : List Int → Prop) (hP : P (List.replicate n 0)) (hn : n ≤ 100000000) : MadeS w w.heap.size n P (w.alloc (.cells (madeCells #[.int .i64 0] n) 3)) :=
  ⟨_, by simp, hP, OwnI.made w.heap.size w n (Nat.le_refl _) hn, (Keeps.refl _ w).alloc _⟩

theorem MadeS.old {w wr : World} {g n : Nat} {P : List Int → Prop} (h : MadeS w g n P wr) : w.heap.size ≤ g ∧ g < wr.heap.size := by
  obtain ⟨zs, _, _, h3, _⟩ := h
  exact h3.lt g rfl

/-- A store into it. -/
theorem MadeS.set {w wr : World} {g n : Nat} {P Q : List Int → Prop} (h : MadeS w g n P wr) (i : Nat) (z : Int) (hQ : ∀ zs, zs.length = n → P zs → Q (zs.set i z)) : MadeS w g n Q (wr.setCell ⟨g, i, none⟩ (.int .i64 z)) := by
  have ho := h.old.1
  obtain ⟨zs, h1, h2, h3, h4⟩ := h
  exact ⟨zs.set i z, by simpa using h1, hQ zs h1 h2, h3.set i z, h4.setCell (.inr ho) _⟩

theorem MadeS.keeps {w wr w1 : World} {g n : Nat} {P : List Int → Prop} (h : MadeS w g n P wr) (hk : Keeps (fun _ => False) wr w1) : MadeS w g n P w1 := by
  obtain ⟨zs, h1, h2, h3, h4⟩ := h
  exact ⟨zs, h1, h2, h3.keeps hk (fun _ _ h => h), h4.trans hk (fun _ _ h => h)⟩

theorem MadeS.cell {w wr : World} {g n : Nat} {P : List Int → Prop} (h : MadeS w g n P wr) (i : Nat) (hi : i < n) : ∃ z : Int, (∃ zs, zs.length = n ∧ P zs ∧ zs[i]? = some z) ∧ wr.cell? ⟨g, i, none⟩ = some (.int .i64 z) ∧ wr.frozen? ⟨g, i, none⟩ = false := by
  obtain ⟨zs, h1, h2, h3, h4⟩ := h
  have hz := List.getElem?_eq_getElem (l := zs) (i := i) (by omega)
  exact ⟨_, ⟨zs, h1, h2, hz⟩, h3.cell hz⟩

theorem MadeS.mono {w wr : World} {g n : Nat} {P Q : List Int → Prop} (h : MadeS w g n P wr) (hQ : ∀ zs, zs.length = n → P zs → Q zs) : MadeS w g n Q wr := by
  obtain ⟨zs, h1, h2, h3⟩ := h
  exact ⟨zs, h1, hQ zs h1 h2, h3⟩

end Go.Proofs.YtblkkcpeodoclaaGreatDoor

/- The references of layers 5, 6: names of orbits, the darts along faces. -/
namespace Go.Proofs.YtblkkcpeodoclaaGreatDoor
open Go.RowKit

def NmI (s : List Nat) (i : Nat) (zs : List Int) : Prop := ∀ x, x < s.length → zs[x]? = some (if rep (sg s) x < i then ((vnum (sg s) x : Nat) : Int) else -1)
def NmK (s : List Nat) (i k : Nat) (zs : List Int) : Prop := ∀ x, x < s.length → zs[x]? = some (if rep (sg s) x < i then ((vnum (sg s) x : Nat) : Int) else if x ∈ (orb (sg s) i).take k then ((ldr (sg s) i : Nat) : Int) else -1)

theorem NmK.zero {s : List Nat} {i : Nat} {zs : List Int} (h : NmI s i zs) : NmK s i 0 zs := fun x hx => by rw [h x hx]; simp
theorem NmK.step {s : List Nat} {i k x : Nat} {zs : List Int} (hP : IsP s.length (sg s)) (hi : i < s.length) (hr : rep (sg s) i = i) (hx : (orb (sg s) i)[k]? = some x) (hl : zs.length = s.length) (h : NmK s i k zs) : NmK s i (k + 1) (zs.set x ((ldr (sg s) i : Nat) : Int)) := by
  have hxo : x ∈ orb (sg s) i := List.mem_of_getElem? hx
  have hxn : x < s.length := hP.sameO_lt hi ((hP.mem_orb hi).1 hxo)
  intro y hy
  rw [List.getElem?_set, take_get hx]
  have h1 := (hP.mark_step hi hxn hr).2 hxo
  by_cases hxy : x = y
  · subst hxy
    rw [if_pos rfl, if_pos (by omega), if_neg h1.2, if_pos (by simp)]
  · rw [if_neg hxy, h y hy]
    have : (y ∈ (orb (sg s) i).take k ++ [x]) ↔ y ∈ (orb (sg s) i).take k := by
      simp only [List.mem_append, List.mem_singleton]
      exact ⟨fun h => h.resolve_right (fun e => hxy e.symm), .inl⟩
    simp only [this]
theorem NmK.done {s : List Nat} {i : Nat} {zs : List Int} (hP : IsP s.length (sg s)) (hi : i < s.length) (hr : rep (sg s) i = i) (h : NmK s i (per (sg s) i) zs) : NmI s (i + 1) zs := by
  intro y hy
  rw [h y hy, List.take_of_length_le (by rw [orb_length]; exact Nat.le_refl _)]
  obtain ⟨h1, h2⟩ := hP.mark_step hi hy hr
  by_cases a : rep (sg s) y < i
  · rw [if_pos a, if_pos (by omega)]
  · rw [if_neg a]
    by_cases b : y ∈ orb (sg s) i
    · rw [if_pos b, if_pos (h1.2 (.inr b)), (h2 b).1]
    · rw [if_neg b, if_neg (fun e => (h1.1 e).elim a b)]
theorem NmI.skip {s : List Nat} {i : Nat} {zs : List Int} (hP : IsP s.length (sg s)) (hr : rep (sg s) i ≠ i) (h : NmI s i zs) : NmI s (i + 1) zs := by
  intro y hy
  rw [h y hy]
  have := hP.mark_skip (i := i) hy hr
  by_cases a : rep (sg s) y < i
  · rw [if_pos a, if_pos (this.2 a)]
  · rw [if_neg a, if_neg (fun e => a (this.1 e))]
theorem NmI.all {s : List Nat} {zs : List Int} (hP : IsP s.length (sg s)) (hl : zs.length = s.length) (h : NmI s s.length zs) : zs = nats ((List.range s.length).map (vnum (sg s))) := by
  apply List.ext_getElem?
  intro e
  rcases Nat.lt_or_ge e s.length with he | he
  · rw [h e he, if_pos (hP.rep_lt he)]
    simp [nats, he]
  · rw [List.getElem?_eq_none (by omega), List.getElem?_eq_none (by simp [nats]; exact he)]
theorem NmI.at {s : List Nat} {i : Nat} {zs : List Int} {z : Int} (hP : IsP s.length (sg s)) (hi : i < s.length) (h : NmI s i zs) (hz : zs[i]? = some z) : (rep (sg s) i = i ∧ z = -1) ∨ (rep (sg s) i ≠ i ∧ 0 ≤ z) := by
  rw [h i hi] at hz
  have hle := hP.rep_self_le hi
  simp only [Option.some.injEq] at hz
  by_cases a : rep (sg s) i < i
  · rw [if_pos a] at hz; exact .inr ⟨by omega, by omega⟩
  · rw [if_neg a] at hz; exact .inl ⟨by omega, hz.symm⟩

end Go.Proofs.YtblkkcpeodoclaaGreatDoor

/- The references of layer 6: the darts along faces. -/
namespace Go.Proofs.YtblkkcpeodoclaaGreatDoor
open Go.RowKit

/-- The darts along faces. -/
def phiL (s : List Nat) : List Nat := (List.range s.length).map fun d => sg s (mt d)
theorem phiL_length (s : List Nat) : (phiL s).length = s.length := by simp [phiL]
end Go.Proofs.YtblkkcpeodoclaaGreatDoor

namespace Go.Proofs.YtblkkcpeodoclaaGreatDoor



/-! How the least dart of each part is found: names go down till nothing changes. -/

end Go.Proofs.YtblkkcpeodoclaaGreatDoor
