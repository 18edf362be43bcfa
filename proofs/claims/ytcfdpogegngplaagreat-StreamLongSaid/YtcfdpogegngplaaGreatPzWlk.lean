/- Plain laws of the walk around a map, told whole. No program is named here. -/
import Derived.Test.YtcfdpogegngplaaGreatPzRef8
namespace Go.Proofs.YtcfdpogegngplaaGreat

/-- A walk that has come to its end behind T steps. -/
structure WkEnd (n : Nat) (S vert : Nat → Nat) (root T : Nat) : Prop where
  right : WRight (kso (wlk S vert root T).2)
  nd : ((wlk S vert root T).2.map Prod.fst).Nodup
  cov : ∀ x, x < n → (Conn n S root x ↔ vis (wlk S vert root T).2 x)
  lt : ∀ x, vis (wlk S vert root T).2 x → x < n
  cur : ∀ j, j < T → (wlk S vert root j).1 < n ∧ ¬ vis (wlk S vert root j).2 (wlk S vert root j).1
  k4 : ∀ j, j ≤ T → ∀ x k, (x, k) ∈ (wlk S vert root j).2 → k < 4
  le : T ≤ n

/-- It takes as many steps as the root's part has darts. -/
theorem WkEnd.total {n : Nat} {S vert : Nat → Nat} {root T : Nat} (h : WkEnd n S vert root T) (p : Nat → Bool) (hp : ∀ x, x < n → (p x = true ↔ Conn n S root x)) : ((List.range n).filter p).length = T := by
  have h1 : ((List.range n).filter p).length = ((wlk S vert root T).2.map Prod.fst).length := by
    refine nodup_eq_len (List.Pairwise.filter _ List.nodup_range) h.nd (fun x => ?_)
    rw [List.mem_filter, List.mem_range, ← vis_map]
    constructor
    · rintro ⟨h2, h3⟩; exact (h.cov x h2).1 ((hp x h2).1 h3)
    · intro h2
      have hx := h.lt x h2
      exact ⟨hx, (hp x hx).2 ((h.cov x hx).2 h2)⟩
  rw [h1, List.length_map, wlk_length]

/-- The kind of an edge's first dart. -/
def fstK (out : List (Nat × Nat)) (e : Nat) : Option Nat := (out.find? (fun p => p.1 / 2 == e)).map Prod.snd

theorem fstK_snoc (out : List (Nat × Nat)) (d k e : Nat) : fstK (out ++ [(d, k)]) e = match fstK out e with | some x => some x | none => if d / 2 = e then some k else none := by
  unfold fstK
  rw [List.find?_append]
  cases out.find? (fun p => p.1 / 2 == e) with
  | some p => rfl
  | none =>
    by_cases h : d / 2 = e
    · simp [h]
    · simp [h]

end Go.Proofs.YtcfdpogegngplaaGreat
