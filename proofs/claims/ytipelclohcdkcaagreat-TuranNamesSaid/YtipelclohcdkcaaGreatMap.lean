/- The contracts of package dart: maps are made, and asked. -/
import Derived.Test.YtipelclohcdkcaaGreatDart
namespace Go.Proofs.YtipelclohcdkcaaGreat
open Go.RowKit

/-- The cells of a map. -/
def mapCells (bp : Nat) (d1 : Bool) (o1 z1 : Value) (bq : Nat) (d2 : Bool) (o2 z2 : Value) (root lone : Int) : Array Value :=
  #[.pointer (some ⟨bp, 0, none⟩), .int .u32 (if d1 then 1 else 0), .int .i32 0, .int .u32 0, o1, z1, .pointer (some ⟨bq, 0, none⟩), .int .u32 (if d2 then 1 else 0), .int .i32 0, .int .u32 0, o2, z2, .int .i64 root, .int .i64 lone]

theorem sg_phi {s : List Nat} {d : Nat} (hd : d < s.length) : sg (phiL s) d = sg s (mt d) := by simp [sg, phiL, hd]

theorem phi_isP {s : List Nat} (h : IsP s.length (sg s)) (he : s.length % 2 = 0) : IsP (phiL s).length (sg (phiL s)) := by
  rw [phiL_length]
  refine ⟨fun d hd => by rw [sg_phi hd]; exact h.lt _ (mt_lt he hd), fun d e hd hen hh => ?_⟩
  rw [sg_phi hd, sg_phi hen] at hh
  have := h.inj _ _ (mt_lt he hd) (mt_lt he hen) hh
  rw [← mt_mt d, this, mt_mt]

/-- A map in memory, at block b; R: the other blocks that are read. -/
structure MapAt (w : World) (b : Nat) (s : List Nat) (root lone : Int) (R : Nat → Prop) : Prop where
  ex : ∃ bp bq sv tv d1 d2 o1 z1 o2 z2, w.heap[b]? = some (.cells (mapCells bp d1 o1 z1 bq d2 o2 z2 root lone) 168 (0, 0)) ∧ PermAt w bp sv s ∧ PermAt w bq tv (phiL s) ∧
    NmT w d1 o1 z1 s ∧ NmT w d2 o2 z2 (phiL s) ∧ R bp ∧ R bq ∧ ∀ k, (sv.ownBlock = some k ∨ tv.ownBlock = some k ∨ o1.ownBlock = some k ∨ z1.ownBlock = some k ∨ o2.ownBlock = some k ∨ z2.ownBlock = some k) → R k
  isP : IsP s.length (sg s)
  even : s.length % 2 = 0
  le : s.length ≤ 131072
  rt : (s.length = 0 ∧ root = -1) ∨ (0 ≤ root ∧ root < s.length)
  ln : 0 ≤ lone ∧ lone ≤ 65536
  old : ∀ x, R x → x < w.heap.size
  notb : ¬ R b

def MapQ (wh : World) (b : Nat) (s : List Nat) (root lone : Int) (R : Nat → Prop) (w' : World) : Prop :=
  MapAt w' b s root lone (grow R wh w') ∧ Keeps (fun k => k = b) wh w'

section
variable {w : World} {b : Nat} {s : List Nat} {root lone : Int} {R : Nat → Prop} (h : MapAt w b s root lone R)
include h

theorem MapAt.lt : b < w.heap.size := by
  obtain ⟨_, _, _, _, _, _, _, _, _, _, hb, _⟩ := h.ex
  exact lt_of_block hb

theorem MapAt.keeps {w' : World} {G : Nat → Prop} (k : Keeps G w w') (hb : ¬ G b) (hR : ∀ x, R x → ¬ G x) : MapAt w' b s root lone R := by
  obtain ⟨⟨bp, bq, sv, tv, d1, d2, o1, z1, o2, z2, h1, h2, h3, h4, h5, h6, h7, h8⟩, a1, a2, a3, a4, a5, a6, a7⟩ := h
  exact ⟨⟨bp, bq, sv, tv, d1, d2, o1, z1, o2, z2, k.at h1 hb, h2.keeps k (hR _ h6) (fun q hq => hR q (h8 q (.inl hq))), h3.keeps k (hR _ h7) (fun q hq => hR q (h8 q (.inr (.inl hq)))),
    h4.keeps k (fun q hq => hR q (h8 q (by rcases hq with e | e; exact .inr (.inr (.inl e)); exact .inr (.inr (.inr (.inl e)))))), h5.keeps k (fun q hq => hR q (h8 q (by rcases hq with e | e; exact .inr (.inr (.inr (.inr (.inl e)))); exact .inr (.inr (.inr (.inr (.inr e))))))),
    h6, h7, h8⟩, a1, a2, a3, a4, a5, fun x hx => Nat.lt_of_lt_of_le (a6 x hx) k.size, a7⟩

theorem MapAt.mono {R' : Nat → Prop} (hR : ∀ x, R x → R' x) (hold : ∀ x, R' x → x < w.heap.size) (hb : ¬ R' b) : MapAt w b s root lone R' := by
  obtain ⟨⟨bp, bq, sv, tv, d1, d2, o1, z1, o2, z2, h1, h2, h3, h4, h5, h6, h7, h8⟩, a1, a2, a3, a4, a5, a6, a7⟩ := h
  exact ⟨⟨bp, bq, sv, tv, d1, d2, o1, z1, o2, z2, h1, h2, h3, h4, h5, hR _ h6, hR _ h7, fun k hk => hR k (h8 k hk)⟩, a1, a2, a3, a4, a5, hold, hb⟩

theorem MapAt.same : MapQ w b s root lone R w := by
  have hb := h.lt
  refine ⟨h.mono (fun x hx => .inl hx) (fun x hx => ?_) (fun hx => ?_), Keeps.refl _ _⟩
  · rcases hx with hx | hx
    · exact h.old x hx
    · exact hx.2
  · rcases hx with hx | hx
    · exact h.notb hx
    · omega

theorem MapAt.trans {w1 w2 : World} (h1 : MapQ w b s root lone R w1) (h2 : MapQ w1 b s root lone (grow R w w1) w2) : MapQ w b s root lone R w2 := by
  have hb := h.lt
  have hs1 := h1.2.size
  have hs2 := h2.2.size
  refine ⟨h2.1.mono (grow_trans hs1 hs2) (grow_old h.old (by omega)) (fun hx => ?_), h1.2.trans h2.2 (fun _ _ e => e)⟩
  rcases hx with hx | hx
  · exact h.notb hx
  · omega

/-- Behind what makes memory. -/
theorem MapAt.still {w1 : World} (k : Keeps (fun _ => False) w w1) : MapQ w b s root lone R w1 := by
  have hb := h.lt
  have hs1 := k.size
  refine ⟨(h.keeps k (fun h => h) (fun _ _ h => h)).mono (fun x hx => .inl hx) (grow_old h.old (by omega)) (fun hx => ?_), k.mono (fun _ _ h => h.elim)⟩
  rcases hx with hx | hx
  · exact h.notb hx
  · omega

theorem MapAt.nb1 : ∃ bp sv d1 o1 z1, NB w b 0 168 (((w.heap[b]?).bind fun o => match o with | .cells cs _ _ => some cs | _ => none).getD #[]) bp d1 0 o1 z1 ∧ PermAt w bp sv s ∧ NmT w d1 o1 z1 s ∧ bp ≠ b ∧ sv.ownBlock ≠ some b ∧
    ∀ w', NmDone w b 0 168 (((w.heap[b]?).bind fun o => match o with | .cells cs _ _ => some cs | _ => none).getD #[]) bp o1 z1 s w' → MapQ w b s root lone R w' := by
  obtain ⟨⟨bp, bq, sv, tv, d1, d2, o1, z1, o2, z2, h1, h2, h3, h4, h5, h6, h7, h8⟩, a1, a2, a3, a4, a5, a6, a7⟩ := id h
  have hcs : (((w.heap[b]?).bind fun o => match o with | .cells cs _ _ => some cs | _ => none).getD #[]) = mapCells bp d1 o1 z1 bq d2 o2 z2 root lone := by rw [h1]; rfl
  rw [hcs]
  refine ⟨bp, sv, d1, o1, z1, ⟨_, h1, rfl, (by decide : 0 + 5 < 14), rfl, rfl, rfl, rfl, rfl, rfl, fun i _ => rfl⟩, h2, h4, fun e => a7 (e ▸ h6), fun e => a7 (h8 b (.inl e)), ?_⟩
  rintro w' ⟨ov, zv, nb, hT, q1, q2, k⟩
  obtain ⟨cur, c0, c1, c2, e0, e1, e2, e3, e4, e5, e6⟩ := nb
  have hcur : cur = mapCells bp true ov zv bq d2 o2 z2 root lone := by
    apply Array.ext_getElem?
    intro i
    have hi : i = 0 ∨ i = 1 ∨ i = 2 ∨ i = 3 ∨ i = 4 ∨ i = 5 ∨ 5 < i := by omega
    rcases hi with rfl | rfl | rfl | rfl | rfl | rfl | hi
    · exact e0
    · exact e1
    · exact e2
    · exact e3
    · exact e4
    · exact e5
    · rw [e6 i (.inr (by omega))]
      have hi2 : i = 6 ∨ i = 7 ∨ i = 8 ∨ i = 9 ∨ i = 10 ∨ i = 11 ∨ i = 12 ∨ i = 13 ∨ 13 < i := by omega
      rcases hi2 with rfl | rfl | rfl | rfl | rfl | rfl | rfl | rfl | hi2
      · rfl
      · rfl
      · rfl
      · rfl
      · rfl
      · rfl
      · rfl
      · rfl
      · rw [Array.getElem?_eq_none (by simp [mapCells]; omega), Array.getElem?_eq_none (by simp [mapCells]; omega)]
  subst hcur
  have hb := h.lt
  have hR : ∀ x, R x → ¬ x = b := fun x hx e => a7 (e ▸ hx)
  refine ⟨⟨⟨bp, bq, sv, tv, true, d2, ov, zv, o2, z2, c0, h2.keeps k (hR _ h6) (fun q hq => hR q (h8 q (.inl hq))), h3.keeps k (hR _ h7) (fun q hq => hR q (h8 q (.inr (.inl hq)))), hT,
    h5.keeps k (fun q hq => hR q (h8 q (by rcases hq with e | e; exact .inr (.inr (.inr (.inr (.inl e)))); exact .inr (.inr (.inr (.inr (.inr e))))))), .inl h6, .inl h7, fun q hq => ?_⟩, a1, a2, a3, a4, a5, grow_old a6 k.size, fun hx => ?_⟩, k⟩
  · rcases hq with e | e | e | e | e | e
    · exact .inl (h8 q (.inl e))
    · exact .inl (h8 q (.inr (.inl e)))
    · rcases q1 q e with e | e
      · exact .inl (h8 q (.inr (.inr (.inl e))))
      · exact .inr e
    · rcases q2 q e with e | e
      · exact .inl (h8 q (.inr (.inr (.inr (.inl e)))))
      · exact .inr e
    · exact .inl (h8 q (.inr (.inr (.inr (.inr (.inl e))))))
    · exact .inl (h8 q (.inr (.inr (.inr (.inr (.inr e))))))
  · rcases hx with hx | hx
    · exact a7 hx
    · omega

theorem MapAt.nb2 : ∃ bq tv d2 o2 z2, NB w b 6 168 (((w.heap[b]?).bind fun o => match o with | .cells cs _ _ => some cs | _ => none).getD #[]) bq d2 0 o2 z2 ∧ PermAt w bq tv (phiL s) ∧ NmT w d2 o2 z2 (phiL s) ∧ bq ≠ b ∧ tv.ownBlock ≠ some b ∧
    ∀ w', NmDone w b 6 168 (((w.heap[b]?).bind fun o => match o with | .cells cs _ _ => some cs | _ => none).getD #[]) bq o2 z2 (phiL s) w' → MapQ w b s root lone R w' := by
  obtain ⟨⟨bp, bq, sv, tv, d1, d2, o1, z1, o2, z2, h1, h2, h3, h4, h5, h6, h7, h8⟩, a1, a2, a3, a4, a5, a6, a7⟩ := id h
  have hcs : (((w.heap[b]?).bind fun o => match o with | .cells cs _ _ => some cs | _ => none).getD #[]) = mapCells bp d1 o1 z1 bq d2 o2 z2 root lone := by rw [h1]; rfl
  rw [hcs]
  refine ⟨bq, tv, d2, o2, z2, ⟨_, h1, rfl, (by decide : 6 + 5 < 14), rfl, rfl, rfl, rfl, rfl, rfl, fun i _ => rfl⟩, h3, h5, fun e => a7 (e ▸ h7), fun e => a7 (h8 b (.inr (.inl e))), ?_⟩
  rintro w' ⟨ov, zv, nb, hT, q1, q2, k⟩
  obtain ⟨cur, c0, c1, c2, e0, e1, e2, e3, e4, e5, e6⟩ := nb
  have hcur : cur = mapCells bp d1 o1 z1 bq true ov zv root lone := by
    apply Array.ext_getElem?
    intro i
    have hi : i = 6 ∨ i = 7 ∨ i = 8 ∨ i = 9 ∨ i = 10 ∨ i = 11 ∨ i < 6 ∨ 11 < i := by omega
    rcases hi with rfl | rfl | rfl | rfl | rfl | rfl | hi | hi
    · exact e0
    · exact e1
    · exact e2
    · exact e3
    · exact e4
    · exact e5
    · rw [e6 i (.inl hi)]
      have hi2 : i = 0 ∨ i = 1 ∨ i = 2 ∨ i = 3 ∨ i = 4 ∨ i = 5 := by omega
      rcases hi2 with rfl | rfl | rfl | rfl | rfl | rfl <;> rfl
    · rw [e6 i (.inr (by omega))]
      have hi2 : i = 12 ∨ i = 13 ∨ 13 < i := by omega
      rcases hi2 with rfl | rfl | hi2
      · rfl
      · rfl
      · rw [Array.getElem?_eq_none (by simp [mapCells]; omega), Array.getElem?_eq_none (by simp [mapCells]; omega)]
  subst hcur
  have hb := h.lt
  have hR : ∀ x, R x → ¬ x = b := fun x hx e => a7 (e ▸ hx)
  refine ⟨⟨⟨bp, bq, sv, tv, d1, true, o1, z1, ov, zv, c0, h2.keeps k (hR _ h6) (fun q hq => hR q (h8 q (.inl hq))), h3.keeps k (hR _ h7) (fun q hq => hR q (h8 q (.inr (.inl hq)))),
    h4.keeps k (fun q hq => hR q (h8 q (by rcases hq with e | e; exact .inr (.inr (.inl e)); exact .inr (.inr (.inr (.inl e)))))), hT, .inl h6, .inl h7, fun q hq => ?_⟩, a1, a2, a3, a4, a5, grow_old a6 k.size, fun hx => ?_⟩, k⟩
  · rcases hq with e | e | e | e | e | e
    · exact .inl (h8 q (.inl e))
    · exact .inl (h8 q (.inr (.inl e)))
    · exact .inl (h8 q (.inr (.inr (.inl e))))
    · exact .inl (h8 q (.inr (.inr (.inr (.inl e)))))
    · rcases q1 q e with e | e
      · exact .inl (h8 q (.inr (.inr (.inr (.inr (.inl e))))))
      · exact .inr e
    · rcases q2 q e with e | e
      · exact .inl (h8 q (.inr (.inr (.inr (.inr (.inr e))))))
      · exact .inr e
  · rcases hx with hx | hx
    · exact a7 hx
    · omega
end

end Go.Proofs.YtipelclohcdkcaaGreat
