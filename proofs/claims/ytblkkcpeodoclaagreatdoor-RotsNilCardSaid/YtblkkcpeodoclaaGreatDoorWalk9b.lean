/- The references of layer 9: Walk, from its beginning to the loop. -/
import Derived.Test.YtblkkcpeodoclaaGreatDoorParts2
import Derived.Test.YtblkkcpeodoclaaGreatDoorWlk
import Derived.Test.YtblkkcpeodoclaaGreatDoorMapI
/- The references of layer 9: the walk. -/
namespace Go.Proofs.YtblkkcpeodoclaaGreatDoor
open Go.RowKit

/-- Between two steps of the walk. -/
structure WkS (wv : World) (bf bm : Nat) (vert : Nat → Nat) (root : Nat) (out : List (Nat × Nat)) (dv kv : Value) (wr : World) : Prop where
  da : OwnI wv.heap.size wr dv (nats (out.map Prod.fst))
  ka : OwnI wv.heap.size wr kv (nats (kso out))
  mf : MapI wr bf out.length (fstK out)
  mm : MapI wr bm (out.length + 1) (fun v => if metB vert root out v = true then some 1 else none)
  s1 : ∀ q, dv.ownBlock = some q → kv.ownBlock ≠ some q ∧ q ≠ bf ∧ q ≠ bm
  s2 : ∀ q, kv.ownBlock = some q → q ≠ bf ∧ q ≠ bm
  kee : Keeps (fun _ => False) wv wr

theorem WkS.step {wv wr w4 w5 w6 : World} {bf bm : Nat} {vert : Nat → Nat} {root d k n g5 c5 g6 c6 : Nat} {out : List (Nat × Nat)} {dv kv : Value} (h : WkS wv bf bm vert root out dv kv wr) (hbf : wv.heap.size ≤ bf) (hbm : wv.heap.size ≤ bm)
    (K4 : Keeps (fun x => x = bf ∨ x = bm) wr w4) (mf4 : MapI w4 bf (out.length + 1) (fstK (out ++ [(d, k)]))) (mm4 : MapI w4 bm (out.length + 2) (fun v => if metB vert root (out ++ [(d, k)]) v = true then some 1 else none))
    (own5 : OwnI wv.heap.size w5 (.slice (some ⟨g5, 0, none⟩) n c5) (nats (out.map Prod.fst) ++ [(d : Int)])) (K5 : Keeps (fun q => dv.ownBlock = some q) w4 w5) (at5 : dv.ownBlock = some g5 ∨ w4.heap.size ≤ g5)
    (own6 : OwnI wv.heap.size w6 (.slice (some ⟨g6, 0, none⟩) n c6) (nats (kso out) ++ [(k : Int)])) (K6 : Keeps (fun q => kv.ownBlock = some q) w5 w6) (at6 : kv.ownBlock = some g6 ∨ w5.heap.size ≤ g6) :
    WkS wv bf bm vert root (out ++ [(d, k)]) (.slice (some ⟨g5, 0, none⟩) n c5) (.slice (some ⟨g6, 0, none⟩) n c6) w6 := by
  have hs4 := K4.size
  have hs5 := K5.size
  have hbf4 := mf4.lt
  have hbm4 := mm4.lt
  have hkl := fun q hq => h.ka.lt q hq
  have hdl := fun q hq => h.da.lt q hq
  have n1 : ∀ q, kv.ownBlock = some q → q ≠ g5 := fun q hq e => by
    subst e
    rcases at5 with h1 | h1
    · exact (h.s1 _ h1).1 hq
    · have := (hkl _ hq).2; omega
  have hg5 := (own5.lt g5 rfl).2
  refine ⟨?_, ?_, ?_, ?_, fun q hq => ?_, fun q hq => ?_, ?_⟩
  · rw [List.map_append, List.map_cons, List.map_nil, nats_snoc]
    exact own5.keeps K6 (fun q hq e => by simp only [Value.ownBlock, Option.some.injEq] at hq; subst hq; exact n1 _ e rfl)
  · rw [kso_snoc, nats_snoc]
    exact own6
  · rw [List.length_append]
    exact ((mf4.keeps K5 (fun e => (h.s1 _ e).2.1 rfl)).keeps K6 (fun e => (h.s2 _ e).1 rfl))
  · rw [List.length_append]
    exact ((mm4.keeps K5 (fun e => (h.s1 _ e).2.2 rfl)).keeps K6 (fun e => (h.s2 _ e).2 rfl))
  · simp only [Value.ownBlock, Option.some.injEq] at hq ⊢
    subst hq
    refine ⟨fun e => ?_, ?_⟩
    · have e := Option.some.inj e
      subst e
      rcases at6 with h1 | h1
      · exact n1 _ h1 rfl
      · omega
    · rcases at5 with h1 | h1
      · exact (h.s1 _ h1).2
      · exact ⟨by omega, by omega⟩
  · simp only [Value.ownBlock, Option.some.injEq] at hq
    subst hq
    rcases at6 with h1 | h1
    · exact h.s2 _ h1
    · exact ⟨by omega, by omega⟩
  · refine ((h.kee.trans K4 (fun x hx e => by omega)).trans K5 (fun x hx e => by have := (hdl x e).1; omega)).trans K6 (fun x hx e => by have := (hkl x e).1; omega)

noncomputable def vnL (s : List Nat) : List Nat := (List.range s.length).map (vnum (sg s))
theorem vnL_length (s : List Nat) : (vnL s).length = s.length := by simp [vnL]
theorem sg_vnL {s : List Nat} {d : Nat} (hd : d < s.length) : sg (vnL s) d = vnum (sg s) d := by simp [sg, vnL, hd]

theorem fstK_upd {out : List (Nat × Nat)} {d k : Nat} (h : fstK out (d / 2) = none) (e : Nat) : updF (fstK out) (d / 2) k e = fstK (out ++ [(d, k)]) e := by
  rw [fstK_snoc]
  unfold updF
  by_cases he : e = d / 2
  · subst he; rw [if_pos rfl, h]; simp
  · rw [if_neg he, if_neg (fun h => he h.symm)]
    cases fstK out e <;> rfl
theorem fstK_old {out : List (Nat × Nat)} {d k x : Nat} (h : fstK out (d / 2) = some x) (e : Nat) : fstK out e = fstK (out ++ [(d, k)]) e := by
  rw [fstK_snoc]
  by_cases he : d / 2 = e
  · subst he; rw [h]
  · rw [if_neg he]; cases fstK out e <;> rfl
theorem met_upd {vert : Nat → Nat} {root d : Nat} {out : List (Nat × Nat)} (v : Nat) : updF (fun v => if metB vert root out v = true then some 1 else none) (vert (mt d)) 1 v = if metB vert root (out ++ [(d, 0)]) v = true then some 1 else none := by
  unfold updF
  by_cases hv : v = vert (mt d)
  · rw [if_pos hv, if_pos (metB_snoc.2 (.inr ⟨rfl, hv.symm⟩))]
  · rw [if_neg hv]
    dsimp only
    by_cases hm : metB vert root out v = true
    · rw [if_pos hm, if_pos (metB_snoc.2 (.inl hm))]
    · rw [if_neg hm, if_neg (fun hh => by
        rcases metB_snoc.1 hh with h1 | ⟨_, h1⟩
        · exact hm h1
        · exact hv h1.symm)]
theorem met_old {vert : Nat → Nat} {root d k : Nat} {out : List (Nat × Nat)} (hk : k ≠ 0) (v : Nat) : (if metB vert root out v = true then some 1 else none) = if metB vert root (out ++ [(d, k)]) v = true then some 1 else none := by
  by_cases hm : metB vert root out v = true
  · rw [if_pos hm, if_pos (metB_snoc.2 (.inl hm))]
  · rw [if_neg hm, if_neg (fun hh => by
      rcases metB_snoc.1 hh with h1 | ⟨h1, _⟩
      · exact hm h1
      · exact hk h1)]

end Go.Proofs.YtblkkcpeodoclaaGreatDoor

namespace Go.Proofs.YtblkkcpeodoclaaGreatDoor
open Go.RowKit

/-- What Walk gives. -/
def Walk9Post (w : World) (s : List Nat) (root : Nat) (e : Ending) (w' : World) : Prop :=
  ∃ dv kv T, e = .returned (.tuple #[dv, kv]) ∧ WkEnd s.length (sg s) (vnum (sg s)) root T ∧ OwnI w.heap.size w' dv (nats ((wlk (sg s) (vnum (sg s)) root T).2.map Prod.fst)) ∧ OwnI w.heap.size w' kv (nats (kso (wlk (sg s) (vnum (sg s)) root T).2)) ∧ Keeps (fun _ => False) w w'

end Go.Proofs.YtblkkcpeodoclaaGreatDoor
