/- Joined texts. -/
import Derived.Test.YtblkkcpeodoclaaGreatDoorPtDfsW
import Derived.Test.YtblkkcpeodoclaaGreatDoorPtConn

/- Plain: what rots.turns makes of lines of darts. -/
namespace Go.Proofs.YtblkkcpeodoclaaGreatDoor

/-- A line's darts, each with the next. -/
def linkV (v : List Nat) : List (Nat × Nat) := (List.range v.length).map fun i => (v.getD i 0, v.getD ((i + 1) % v.length) 0)
def linksL (ls : List (List Nat)) : List (Nat × Nat) := ls.flatMap linkV

/-- Each dart once, and no other. -/
def TurnOk (ls : List (List Nat)) (D : Nat) : Prop := (linksL ls).length = D ∧ ((linksL ls).map Prod.fst).Nodup ∧ ∀ p ∈ linksL ls, p.1 < D

theorem link_fst (v : List Nat) : (linkV v).map Prod.fst = v := by
  unfold linkV
  rw [List.map_map]
  apply List.ext_getElem
  · simp
  · intro i h1 h2
    simp [List.getD_eq_getElem?_getD, List.getElem?_eq_getElem h2]

theorem link_snd (v : List Nat) : ((linkV v).map Prod.snd).Perm v := by
  cases v with
  | nil => simp [linkV]
  | cons a r =>
    have : (linkV (a :: r)).map Prod.snd = r ++ [a] := by
      unfold linkV
      rw [List.map_map]
      apply List.ext_getElem
      · simp
      · intro i h1 h2
        simp only [List.length_append, List.length_singleton] at h2
        simp only [List.getElem_map, List.getElem_range, Function.comp_apply, List.length_cons, List.getD_eq_getElem?_getD]
        by_cases hi : i < r.length
        · rw [Nat.mod_eq_of_lt (by omega), List.getElem?_cons_succ, List.getElem?_eq_getElem hi, List.getElem_append_left hi]
          rfl
        · have : i = r.length := by omega
          subst this
          rw [Nat.mod_self]
          simp
    rw [this]
    exact List.perm_append_singleton a r

theorem links_fst (ls : List (List Nat)) : (linksL ls).map Prod.fst = ls.flatten := by
  unfold linksL
  induction ls with
  | nil => rfl
  | cons v ls ih => rw [List.flatMap_cons, List.map_append, link_fst, ih, List.flatten_cons]

theorem links_snd (ls : List (List Nat)) : ((linksL ls).map Prod.snd).Perm ls.flatten := by
  unfold linksL
  induction ls with
  | nil => exact List.Perm.refl _
  | cons v ls ih => rw [List.flatMap_cons, List.map_append, List.flatten_cons]; exact (link_snd v).append ih

/-- The turns as far as some links are done. -/
structure TurnI (D : Nat) (done : List (Nat × Nat)) (zs : List Int) : Prop where
  len : zs.length = D
  get : ∀ p ∈ done, zs[p.1]? = some (p.2 : Int)
  nodup : (done.map Prod.fst).Nodup
  lt : ∀ p ∈ done, p.1 < D

theorem TurnI.start (D : Nat) : TurnI D [] (List.replicate D 0) := ⟨by simp, fun p h => by simp at h, by simp, fun p h => by simp at h⟩

theorem TurnI.put {D : Nat} {done : List (Nat × Nat)} {zs : List Int} {d y : Nat} (h : TurnI D done zs) (hd : d < D) (hn : d ∉ done.map Prod.fst) : TurnI D (done ++ [(d, y)]) (zs.set d (y : Int)) := by
  refine ⟨by simp [h.len], fun p hp => ?_, ?_, fun p hp => ?_⟩
  · rcases List.mem_append.1 hp with hp | hp
    · have hne : d ≠ p.1 := fun e => hn (e ▸ List.mem_map.2 ⟨p, hp, rfl⟩)
      rw [List.getElem?_set_ne hne]
      exact h.get p hp
    · rw [List.mem_singleton] at hp
      subst hp
      rw [List.getElem?_set_self (by rw [h.len]; exact hd)]
  · rw [List.map_append, List.nodup_append]
    refine ⟨h.nodup, by simp, fun a ha b hb e => ?_⟩
    simp at hb
    subst hb
    exact hn (e ▸ ha)
  · rcases List.mem_append.1 hp with hp | hp
    · exact h.lt p hp
    · rw [List.mem_singleton] at hp
      subst hp
      exact hd

end Go.Proofs.YtblkkcpeodoclaaGreatDoor

/- Plain: the turns of lines that hold each dart once are a permutation. -/
namespace Go.Proofs.YtblkkcpeodoclaaGreatDoor

theorem TurnI.all {D : Nat} {l : List (Nat × Nat)} {zs : List Int} (h : TurnI D l zs) (hc : l.length = D) (d : Nat) (hd : d < D) : ∃ y, (d, y) ∈ l := by
  by_cases hm : d ∈ l.map Prod.fst
  · obtain ⟨p, hp, rfl⟩ := List.mem_map.1 hm
    exact ⟨p.2, hp⟩
  · exfalso
    have := nodup_le D (d :: l.map Prod.fst) (List.nodup_cons.2 ⟨hm, h.nodup⟩) (fun x hx => by
      rcases List.mem_cons.1 hx with rfl | hx
      · exact hd
      · obtain ⟨p, hp, rfl⟩ := List.mem_map.1 hx
        exact h.lt p hp)
    simp at this
    omega

theorem snd_uniq {l : List (Nat × Nat)} (hf : (l.map Prod.fst).Nodup) (hs : (l.map Prod.snd).Nodup) {d e y : Nat} (h1 : (d, y) ∈ l) (h2 : (e, y) ∈ l) : d = e := by
  induction l with
  | nil => cases h1
  | cons p l ih =>
    rw [List.map_cons, List.nodup_cons] at hf hs
    rcases List.mem_cons.1 h1 with e1 | h1
    · rcases List.mem_cons.1 h2 with e2 | h2
      · rw [← e2] at e1; cases e1; rfl
      · exact absurd (List.mem_map.2 ⟨(e, y), h2, by rw [← e1]⟩) hs.1
    · rcases List.mem_cons.1 h2 with e2 | h2
      · exact absurd (List.mem_map.2 ⟨(d, y), h1, by rw [← e2]⟩) hs.1
      · exact ih hf.2 hs.2 h1 h2

theorem TurnI.done {D : Nat} {ls : List (List Nat)} {zs : List Int} (h : TurnI D (linksL ls) zs) (hc : (linksL ls).length = D) :
    ∃ s : List Nat, zs = nats s ∧ s.length = D ∧ IsP D (sg s) ∧ ∀ p ∈ linksL ls, sg s p.1 = p.2 := by
  have hall := h.all hc
  have hsn : ((linksL ls).map Prod.snd).Nodup := (links_snd ls).nodup_iff.2 (by rw [← links_fst]; exact h.nodup)
  have hcl : ∀ d y, (d, y) ∈ linksL ls → y < D := fun d y hm => by
    have h1 : y ∈ ls.flatten := (links_snd ls).mem_iff.1 (List.mem_map.2 ⟨(d, y), hm, rfl⟩)
    rw [← links_fst] at h1
    obtain ⟨p, hp, rfl⟩ := List.mem_map.1 h1
    exact h.lt p hp
  obtain ⟨s, hs⟩ : ∃ s, s = zs.map Int.toNat := ⟨_, rfl⟩
  have hlen : s.length = D := by rw [hs, List.length_map, h.len]
  have hsg : ∀ p ∈ linksL ls, sg s p.1 = p.2 := fun p hp => by
    have := h.get p hp
    unfold sg
    rw [List.getD_eq_getElem?_getD, hs, List.getElem?_map, this]
    rfl
  refine ⟨s, ?_, hlen, ⟨fun d hd => ?_, fun d e hd he hh => ?_⟩, hsg⟩
  · apply List.ext_getElem?
    intro d
    by_cases hd : d < D
    · obtain ⟨y, hy⟩ := hall d hd
      rw [h.get _ hy, hs]
      unfold nats
      rw [List.getElem?_map, List.getElem?_map, h.get _ hy]
      rfl
    · rw [List.getElem?_eq_none (by rw [h.len]; omega), List.getElem?_eq_none (by unfold nats; rw [List.length_map, hlen]; omega)]
  · obtain ⟨y, hy⟩ := hall d hd
    rw [hsg _ hy]
    exact hcl _ _ hy
  · obtain ⟨y, hy⟩ := hall d hd
    obtain ⟨z, hz⟩ := hall e he
    rw [hsg _ hy, hsg _ hz] at hh
    simp only at hh
    subst hh
    exact snd_uniq h.nodup hsn hy hz

end Go.Proofs.YtblkkcpeodoclaaGreatDoor
