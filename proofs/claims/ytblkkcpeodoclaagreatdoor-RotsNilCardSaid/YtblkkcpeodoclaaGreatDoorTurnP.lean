/- Plain: what rots.turns makes of lines of darts. -/
import Derived.Test.YtblkkcpeodoclaaGreatDoorPerm
namespace Go.Proofs.YtblkkcpeodoclaaGreatDoor

/-- A line's darts, each with the next. -/
def linkV (v : List Nat) : List (Nat × Nat) := (List.range v.length).map fun i => (v.getD i 0, v.getD ((i + 1) % v.length) 0)
def linksL (ls : List (List Nat)) : List (Nat × Nat) := ls.flatMap linkV

/-- Each dart once, and no other. -/
def TurnOk (ls : List (List Nat)) (D : Nat) : Prop := (linksL ls).length = D ∧ ((linksL ls).map Prod.fst).Nodup ∧ ∀ p ∈ linksL ls, p.1 < D

theorem link_fst (v : List Nat) : (linkV v).map Prod.fst = v := by
  unfold linkV
  rw [List.map_map]
  apply List.ext_getElem
  · simp
  · intro i h1 h2
    simp [List.getD_eq_getElem?_getD, List.getElem?_eq_getElem h2]

theorem link_snd (v : List Nat) : ((linkV v).map Prod.snd).Perm v := by
  cases v with
  | nil => simp [linkV]
  | cons a r =>
    have : (linkV (a :: r)).map Prod.snd = r ++ [a] := by
      unfold linkV
      rw [List.map_map]
      apply List.ext_getElem
      · simp
      · intro i h1 h2
        simp only [List.length_append, List.length_singleton] at h2
        simp only [List.getElem_map, List.getElem_range, Function.comp_apply, List.length_cons, List.getD_eq_getElem?_getD]
        by_cases hi : i < r.length
        · rw [Nat.mod_eq_of_lt (by omega), List.getElem?_cons_succ, List.getElem?_eq_getElem hi, List.getElem_append_left hi]
          rfl
        · have : i = r.length := by omega
          subst this
          rw [Nat.mod_self]
          simp
    rw [this]
    exact List.perm_append_singleton a r

theorem links_fst (ls : List (List Nat)) : (linksL ls).map Prod.fst = ls.flatten := by
  unfold linksL
  induction ls with
  | nil => rfl
  | cons v ls ih => rw [List.flatMap_cons, List.map_append, link_fst, ih, List.flatten_cons]

theorem links_snd (ls : List (List Nat)) : ((linksL ls).map Prod.snd).Perm ls.flatten := by
  unfold linksL
  induction ls with
  | nil => exact List.Perm.refl _
  | cons v ls ih => rw [List.flatMap_cons, List.map_append, List.flatten_cons]; exact (link_snd v).append ih

/-- The turns as far as some links are done. -/
structure TurnI (D : Nat) (done : List (Nat × Nat)) (zs : List Int) : Prop where
  len : zs.length = D
  get : ∀ p ∈ done, zs[p.1]? = some (p.2 : Int)
  nodup : (done.map Prod.fst).Nodup
  lt : ∀ p ∈ done, p.1 < D

theorem TurnI.start (D : Nat) : TurnI D [] (List.replicate D 0) := ⟨by simp, fun p h => by simp at h, by simp, fun p h => by simp at h⟩

theorem TurnI.put {D : Nat} {done : List (Nat × Nat)} {zs : List Int} {d y : Nat} (h : TurnI D done zs) (hd : d < D) (hn : d ∉ done.map Prod.fst) : TurnI D (done ++ [(d, y)]) (zs.set d (y : Int)) := by
  refine ⟨by simp [h.len], fun p hp => ?_, ?_, fun p hp => ?_⟩
  · rcases List.mem_append.1 hp with hp | hp
    · have hne : d ≠ p.1 := fun e => hn (e ▸ List.mem_map.2 ⟨p, hp, rfl⟩)
      rw [List.getElem?_set_ne hne]
      exact h.get p hp
    · rw [List.mem_singleton] at hp
      subst hp
      rw [List.getElem?_set_self (by rw [h.len]; exact hd)]
  · rw [List.map_append, List.nodup_append]
    refine ⟨h.nodup, by simp, fun a ha b hb e => ?_⟩
    simp at hb
    subst hb
    exact hn (e ▸ ha)
  · rcases List.mem_append.1 hp with hp | hp
    · exact h.lt p hp
    · rw [List.mem_singleton] at hp
      subst hp
      exact hd

end Go.Proofs.YtblkkcpeodoclaaGreatDoor
