/- Plain: a text that is a map has a line for each vertex. -/
import Derived.Test.YtblkkcpeodoclaaGreatDoorPrintQ
namespace Go.Proofs.YtblkkcpeodoclaaGreatDoor

theorem links_mem {ls : List (List Nat)} {l : List Nat} (hl : l ∈ ls) {i : Nat} (hi : i < l.length) : (l.getD i 0, l.getD ((i + 1) % l.length) 0) ∈ linksL ls := by
  unfold linksL
  refine List.mem_flatMap.2 ⟨l, hl, ?_⟩
  unfold linkV
  exact List.mem_map.2 ⟨i, List.mem_range.2 hi, rfl⟩

theorem line_itr {S : Nat → Nat} {ls : List (List Nat)} (hS : ∀ p ∈ linksL ls, S p.1 = p.2) {l : List Nat} (hl : l ∈ ls) : ∀ i, i < l.length → l.getD i 0 = itr S i (l.getD 0 0)
  | 0, _ => rfl
  | i + 1, hi => by
    have ih := line_itr hS hl i (by omega)
    have h1 := hS _ (links_mem hl (show i < l.length by omega))
    simp only at h1
    rw [Nat.mod_eq_of_lt hi] at h1
    rw [← h1, ih]
    rfl

theorem line_closed {S : Nat → Nat} {ls : List (List Nat)} (hS : ∀ p ∈ linksL ls, S p.1 = p.2) {l : List Nat} (hl : l ∈ ls) : ∀ (k : Nat) {x : Nat}, x ∈ l → itr S k x ∈ l
  | 0, x, hx => hx
  | k + 1, x, hx => by
    have ih := line_closed hS hl k hx
    obtain ⟨i, hi⟩ := List.mem_iff_getElem?.1 ih
    obtain ⟨hil, hie⟩ := List.getElem?_eq_some_iff.1 hi
    have h1 := hS _ (links_mem hl hil)
    simp only at h1
    rw [List.getD_eq_getElem?_getD, hi] at h1
    show S (itr S k x) ∈ l
    have h2 : S (itr S k x) = l.getD ((i + 1) % l.length) 0 := h1
    rw [h2, List.getD_eq_getElem?_getD, List.getElem?_eq_getElem (Nat.mod_lt _ (by omega))]
    exact List.getElem_mem _

theorem reps_nodup {n : Nat} {S : Nat → Nat} (h : IsP n S) : ∀ (ls : List (List Nat)), (∀ l ∈ ls, l ≠ []) → ls.flatten.Nodup → (∀ l ∈ ls, ∀ x ∈ l, x < n ∧ ∀ k, itr S k x ∈ l) → (ls.map fun l => rep S (l.getD 0 0)).Nodup
  | [], _, _, _ => by simp
  | l :: ls, hne, hn, hc => by
    rw [List.flatten_cons, List.nodup_append] at hn
    rw [List.map_cons, List.nodup_cons]
    refine ⟨fun hm => ?_, reps_nodup h ls (fun m hm => hne m (List.mem_cons_of_mem _ hm)) hn.2.1 (fun m hm => hc m (List.mem_cons_of_mem _ hm))⟩
    obtain ⟨m, hm, he⟩ := List.mem_map.1 hm
    have hhead : ∀ q : List Nat, q ≠ [] → q.getD 0 0 ∈ q := fun q hq => by
      cases q with
      | nil => exact absurd rfl hq
      | cons a q => simp
    have h1 := hhead l (hne l (List.mem_cons_self ..))
    have h2 := hhead m (hne m (List.mem_cons_of_mem _ hm))
    have h3 := (hc l (List.mem_cons_self ..) _ h1)
    have h4 := (hc m (List.mem_cons_of_mem _ hm) _ h2).1
    obtain ⟨k, hk⟩ := (h.rep_iff h3.1 h4).1 he.symm
    have h5 := h3.2 k
    rw [hk] at h5
    exact hn.2.2 _ h5 _ (List.mem_flatten.2 ⟨m, hm, h2⟩) rfl

theorem read_ne {t : List UInt8} {h0 r n0 : Int} {ls : List (List Nat)} (hR : ReadK t ([h0, r, n0] :: ls.map nats)) : ∀ l ∈ ls, l ≠ [] := by
  rintro l hl rfl
  obtain ⟨xs, _, _, hr⟩ := hR
  obtain ⟨i, hi⟩ := List.mem_iff_getElem?.1 hl
  have hlen : i + 1 < xs.length := by
    have h1 := hr.1
    have := (List.getElem?_eq_some_iff.1 hi).1
    rw [List.length_cons, List.length_map] at h1
    omega
  obtain ⟨m, h1, h2, _⟩ := hr.2 (i + 1) _ (List.getElem?_eq_getElem hlen)
  rw [List.getElem?_cons_succ, List.getElem?_map, hi] at h1
  simp only [Option.map_some, Option.some.injEq] at h1
  subst h1
  obtain ⟨h3, _⟩ := mapM_get h2
  have := cutB_ne 32 xs[i + 1]
  simp [nats] at h3
  exact this (List.eq_nil_of_length_eq_zero h3.symm)

theorem turn_all {ls : List (List Nat)} {D : Nat} (hT : TurnOk ls D) {d : Nat} (hd : d < D) : d ∈ ls.flatten := by
  rw [← links_fst]
  by_cases hm : d ∈ (linksL ls).map Prod.fst
  · exact hm
  · exfalso
    have := nodup_le D (d :: (linksL ls).map Prod.fst) (List.nodup_cons.2 ⟨hm, hT.2.1⟩) (fun x hx => by
      rcases List.mem_cons.1 hx with rfl | hx
      · exact hd
      · obtain ⟨p, hp, rfl⟩ := List.mem_map.1 hx
        exact hT.2.2 p hp)
    rw [List.length_cons, List.length_map, hT.1] at this
    omega

theorem lines_count {s : List Nat} {ls : List (List Nat)} (hP : IsP s.length (sg s)) (hne : ∀ l ∈ ls, l ≠ []) (hT : TurnOk ls s.length) (hS : ∀ p ∈ linksL ls, sg s p.1 = p.2) : ls.length = ldr (sg s) s.length := by
  have hlt : ∀ l ∈ ls, ∀ x ∈ l, x < s.length := fun l hl x hx => by
    have : x ∈ (linksL ls).map Prod.fst := by rw [links_fst]; exact List.mem_flatten.2 ⟨l, hl, hx⟩
    obtain ⟨p, hp, rfl⟩ := List.mem_map.1 this
    exact hT.2.2 p hp
  have hhead : ∀ q : List Nat, q ≠ [] → q.getD 0 0 ∈ q := fun q hq => by
    cases q with
    | nil => exact absurd rfl hq
    | cons a q => simp
  have hn := reps_nodup hP ls hne (by rw [← links_fst]; exact hT.2.1) (fun l hl x hx => ⟨hlt l hl x hx, fun k => line_closed hS hl k hx⟩)
  have hf : (firsts (sg s) s.length).Nodup := by unfold firsts; exact List.Nodup.sublist List.filter_sublist List.nodup_range
  have := nodup_eq_len hn hf (fun x => by
    rw [mem_firsts]
    constructor
    · intro hx
      obtain ⟨l, hl, rfl⟩ := List.mem_map.1 hx
      have h1 := hlt l hl _ (hhead l (hne l hl))
      exact ⟨hP.rep_lt h1, hP.rep_rep h1⟩
    · rintro ⟨hx, hr⟩
      obtain ⟨l, hl, hxl⟩ := List.mem_flatten.1 (turn_all hT hx)
      refine List.mem_map.2 ⟨l, hl, ?_⟩
      obtain ⟨i, hi⟩ := List.mem_iff_getElem?.1 hxl
      have hil := (List.getElem?_eq_some_iff.1 hi).1
      have h1 := line_itr hS hl i hil
      rw [List.getD_eq_getElem?_getD, hi] at h1
      have h2 := hlt l hl _ (hhead l (hne l hl))
      have := (hP.rep_iff h2 hx).2 ⟨i, h1.symm⟩
      rw [this, hr])
  rw [List.length_map, firsts_len] at this
  exact this

theorem GoodK.count {t : List UInt8} {s : List Nat} {rt : Int} {ln k : Nat} (h : GoodK t s rt ln k) : k = ldr (sg s) s.length + 1 := by
  obtain ⟨_, a, ls, hR, hk, hT, hS, hl, hP, _⟩ := h
  rw [← hl] at hT
  have := lines_count hP (read_ne hR) hT hS
  omega

end Go.Proofs.YtblkkcpeodoclaaGreatDoor
