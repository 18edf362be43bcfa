/- Plain: the turns of lines that hold each dart once are a permutation. -/
import Derived.Test.YtblkkcpeodoclaaGreatDoorTurnP
import Derived.Test.YtblkkcpeodoclaaGreatDoorConn
namespace Go.Proofs.YtblkkcpeodoclaaGreatDoor

theorem TurnI.all {D : Nat} {l : List (Nat × Nat)} {zs : List Int} (h : TurnI D l zs) (hc : l.length = D) (d : Nat) (hd : d < D) : ∃ y, (d, y) ∈ l := by
  by_cases hm : d ∈ l.map Prod.fst
  · obtain ⟨p, hp, rfl⟩ := List.mem_map.1 hm
    exact ⟨p.2, hp⟩
  · exfalso
    have := nodup_le D (d :: l.map Prod.fst) (List.nodup_cons.2 ⟨hm, h.nodup⟩) (fun x hx => by
      rcases List.mem_cons.1 hx with rfl | hx
      · exact hd
      · obtain ⟨p, hp, rfl⟩ := List.mem_map.1 hx
        exact h.lt p hp)
    simp at this
    omega

theorem snd_uniq {l : List (Nat × Nat)} (hf : (l.map Prod.fst).Nodup) (hs : (l.map Prod.snd).Nodup) {d e y : Nat} (h1 : (d, y) ∈ l) (h2 : (e, y) ∈ l) : d = e := by
  induction l with
  | nil => cases h1
  | cons p l ih =>
    rw [List.map_cons, List.nodup_cons] at hf hs
    rcases List.mem_cons.1 h1 with e1 | h1
    · rcases List.mem_cons.1 h2 with e2 | h2
      · rw [← e2] at e1; cases e1; rfl
      · exact absurd (List.mem_map.2 ⟨(e, y), h2, by rw [← e1]⟩) hs.1
    · rcases List.mem_cons.1 h2 with e2 | h2
      · exact absurd (List.mem_map.2 ⟨(d, y), h1, by rw [← e2]⟩) hs.1
      · exact ih hf.2 hs.2 h1 h2

theorem TurnI.done {D : Nat} {ls : List (List Nat)} {zs : List Int} (h : TurnI D (linksL ls) zs) (hc : (linksL ls).length = D) :
    ∃ s : List Nat, zs = nats s ∧ s.length = D ∧ IsP D (sg s) ∧ ∀ p ∈ linksL ls, sg s p.1 = p.2 := by
  have hall := h.all hc
  have hsn : ((linksL ls).map Prod.snd).Nodup := (links_snd ls).nodup_iff.2 (by rw [← links_fst]; exact h.nodup)
  have hcl : ∀ d y, (d, y) ∈ linksL ls → y < D := fun d y hm => by
    have h1 : y ∈ ls.flatten := (links_snd ls).mem_iff.1 (List.mem_map.2 ⟨(d, y), hm, rfl⟩)
    rw [← links_fst] at h1
    obtain ⟨p, hp, rfl⟩ := List.mem_map.1 h1
    exact h.lt p hp
  obtain ⟨s, hs⟩ : ∃ s, s = zs.map Int.toNat := ⟨_, rfl⟩
  have hlen : s.length = D := by rw [hs, List.length_map, h.len]
  have hsg : ∀ p ∈ linksL ls, sg s p.1 = p.2 := fun p hp => by
    have := h.get p hp
    unfold sg
    rw [List.getD_eq_getElem?_getD, hs, List.getElem?_map, this]
    rfl
  refine ⟨s, ?_, hlen, ⟨fun d hd => ?_, fun d e hd he hh => ?_⟩, hsg⟩
  · apply List.ext_getElem?
    intro d
    by_cases hd : d < D
    · obtain ⟨y, hy⟩ := hall d hd
      rw [h.get _ hy, hs]
      unfold nats
      rw [List.getElem?_map, List.getElem?_map, h.get _ hy]
      rfl
    · rw [List.getElem?_eq_none (by rw [h.len]; omega), List.getElem?_eq_none (by unfold nats; rw [List.length_map, hlen]; omega)]
  · obtain ⟨y, hy⟩ := hall d hd
    rw [hsg _ hy]
    exact hcl _ _ hy
  · obtain ⟨y, hy⟩ := hall d hd
    obtain ⟨z, hz⟩ := hall e he
    rw [hsg _ hy, hsg _ hz] at hh
    simp only at hh
    subst hh
    exact snd_uniq h.nodup hsn hy hz

end Go.Proofs.YtblkkcpeodoclaaGreatDoor
