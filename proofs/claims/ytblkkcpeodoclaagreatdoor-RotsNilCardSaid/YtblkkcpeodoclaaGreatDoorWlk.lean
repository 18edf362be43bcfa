/- Plain laws of the walk around a map, told whole. No program is named here. -/
import Derived.Test.YtblkkcpeodoclaaGreatDoorRef8
namespace Go.Proofs.YtblkkcpeodoclaaGreatDoor

/-- A walk that has come to its end behind T steps. -/
structure WkEnd (n : Nat) (S vert : Nat → Nat) (root T : Nat) : Prop where
  right : WRight (kso (wlk S vert root T).2)
  nd : ((wlk S vert root T).2.map Prod.fst).Nodup
  cov : ∀ x, x < n → (Conn n S root x ↔ vis (wlk S vert root T).2 x)
  lt : ∀ x, vis (wlk S vert root T).2 x → x < n
  cur : ∀ j, j < T → (wlk S vert root j).1 < n ∧ ¬ vis (wlk S vert root j).2 (wlk S vert root j).1
  k4 : ∀ j, j ≤ T → ∀ x k, (x, k) ∈ (wlk S vert root j).2 → k < 4
  le : T ≤ n

theorem wlk_end {n : Nat} {S vert : Nat → Nat} (h : IsP n S) (he : n % 2 = 0) (hv : ∀ x y, x < n → y < n → (vert x = vert y ↔ SameO S x y)) {root : Nat} (hr : root < n) : ∃ T, WkEnd n S vert root T := by
  have hvt : ∀ x, x < n → vert (S x) = vert x := fun x hx => ((hv x (S x) hx (h.lt x hx)).2 (SameO.step S x)).symm
  obtain ⟨T, r, I, hd, hall⟩ := dfs_end h he hv hr n 0 0 [] (by omega) (dinv_zero hv hr) (fun i hi => by omega)
  have key : ∀ j, j ≤ T → ∃ r st pend, DInv n S vert root r st (wlk S vert root j).1 (wlk S vert root j).2 ∧ WInv (wlk S vert root j).2 st pend := by
    intro j
    induction j with
    | zero => intro _; exact ⟨0, [], [], dinv_zero hv hr, winv_zero⟩
    | succ j ih =>
      intro hj
      obtain ⟨r1, st1, pend, I1, W1⟩ := ih (by omega)
      obtain ⟨r2, st2, I2, hn2⟩ := hall j (by omega)
      obtain ⟨f1, f2, f3⟩ := I2.fresh h hr hn2
      have hn1 : ¬ DDone S root r1 st1 := fun hd1 => f3 (I1.all h hr hd1 hvt f2)
      obtain ⟨r3, st3, hs, I3⟩ := I1.step h he hv hr hn1
      obtain ⟨pend', W3⟩ := W1.step h hr I1 f3 hs
      exact ⟨r3, st3, pend', I3, W3⟩
  obtain ⟨r1, st1, pend, I1, W1⟩ := key T (Nat.le_refl _)
  have hd1 : DDone S root r1 st1 := by
    apply Classical.byContradiction
    intro hn
    obtain ⟨_, f2, f3⟩ := I1.fresh h hr hn
    exact f3 (I.all h hr hd hvt f2)
  obtain ⟨rfl, hd2⟩ := id hd1
  refine ⟨T, ⟨W1.done h hr I1 ⟨rfl, hd2⟩, I.nd, fun x hx => ⟨fun hc => I.all h hr hd hvt hc, fun hvx => (I.conn x hvx).2⟩, fun x hx => (I.conn x hx).1, fun j hj => ?_, fun j hj => ?_, ?_⟩⟩
  · obtain ⟨r2, st2, I2, hn2⟩ := hall j hj
    obtain ⟨f1, f2, f3⟩ := I2.fresh h hr hn2
    exact ⟨f1, f3⟩
  · obtain ⟨r2, st2, _, I2, _⟩ := key j hj
    exact I2.k4
  · have := I.len
    rwa [wlk_length] at this

/-- It takes as many steps as the root's part has darts. -/
theorem WkEnd.total {n : Nat} {S vert : Nat → Nat} {root T : Nat} (h : WkEnd n S vert root T) (p : Nat → Bool) (hp : ∀ x, x < n → (p x = true ↔ Conn n S root x)) : ((List.range n).filter p).length = T := by
  have h1 : ((List.range n).filter p).length = ((wlk S vert root T).2.map Prod.fst).length := by
    refine nodup_eq_len (List.Pairwise.filter _ List.nodup_range) h.nd (fun x => ?_)
    rw [List.mem_filter, List.mem_range, ← vis_map]
    constructor
    · rintro ⟨h2, h3⟩; exact (h.cov x h2).1 ((hp x h2).1 h3)
    · intro h2
      have hx := h.lt x h2
      exact ⟨hx, (hp x hx).2 ((h.cov x hx).2 h2)⟩
  rw [h1, List.length_map, wlk_length]

/-- The kind of an edge's first dart. -/
def fstK (out : List (Nat × Nat)) (e : Nat) : Option Nat := (out.find? (fun p => p.1 / 2 == e)).map Prod.snd

theorem fstK_snoc (out : List (Nat × Nat)) (d k e : Nat) : fstK (out ++ [(d, k)]) e = match fstK out e with | some x => some x | none => if d / 2 = e then some k else none := by
  unfold fstK
  rw [List.find?_append]
  cases out.find? (fun p => p.1 / 2 == e) with
  | some p => rfl
  | none =>
    by_cases h : d / 2 = e
    · simp [h]
    · simp [h]

theorem kindB_fst (vert : Nat → Nat) (root : Nat) (out : List (Nat × Nat)) (d : Nat) : kindB vert root out d = match fstK out (d / 2) with | some x => x + 1 | none => if metB vert root out (vert (mt d)) then 2 else 0 := by
  unfold kindB fstK
  cases out.find? (fun p => p.1 / 2 == d / 2) <;> rfl

theorem fstK_mem {out : List (Nat × Nat)} {e k : Nat} (h : fstK out e = some k) : ∃ x, (x, k) ∈ out := by
  unfold fstK at h
  cases hf : out.find? (fun p => p.1 / 2 == e) with
  | none => rw [hf] at h; cases h
  | some p =>
    rw [hf] at h
    obtain ⟨x, y⟩ := p
    simp at h
    subst h
    exact ⟨x, List.mem_of_find?_eq_some hf⟩

end Go.Proofs.YtblkkcpeodoclaaGreatDoor
