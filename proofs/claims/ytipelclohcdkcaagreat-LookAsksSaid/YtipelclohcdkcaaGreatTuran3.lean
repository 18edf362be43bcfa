/- Plain laws of words as maps: vertices as lists of places. No program is named here. -/
import Derived.Test.YtipelclohcdkcaaGreatTuran2
namespace Go.Proofs.YtipelclohcdkcaaGreat

/-- The places of a vertex, ahead of a place. -/
def plj (ks : List Nat) (j v : Nat) : List Nat := (List.range j).filter fun p => vx ks p == v
/-- The places of a vertex. -/
def pl (ks : List Nat) (v : Nat) : List Nat := plj ks ks.length v

theorem plj_succ (ks : List Nat) (j v : Nat) : plj ks (j + 1) v = plj ks j v ++ if vx ks j = v then [j] else [] := by
  unfold plj
  rw [List.range_succ, List.filter_append]
  congr 1
  by_cases hv : vx ks j = v <;> simp [hv]

theorem mem_pl {ks : List Nat} {v p : Nat} : p ∈ pl ks v ↔ p < ks.length ∧ vx ks p = v := by
  unfold pl plj
  simp [List.mem_filter]

theorem pl_sorted (ks : List Nat) (v : Nat) : (pl ks v).Pairwise (· < ·) := List.Pairwise.filter _ (List.pairwise_lt_range)

theorem pl_lt {ks : List Nat} {v i j a c : Nat} (hi : (pl ks v)[i]? = some a) (hj : (pl ks v)[j]? = some c) : i < j ↔ a < c := by
  have h1 := lt_of_get hi
  have h2 := lt_of_get hj
  rw [List.getElem?_eq_getElem h1] at hi
  rw [List.getElem?_eq_getElem h2] at hj
  simp only [Option.some.injEq] at hi hj
  have hs := List.pairwise_iff_getElem.1 (pl_sorted ks v)
  subst hi
  subst hj
  constructor
  · intro h; exact hs i j h1 h2 h
  · intro h
    rcases Nat.lt_trichotomy i j with h3 | rfl | h3
    · exact h3
    · omega
    · have := hs j i h2 h1 h3; omega

section
variable {ks : List Nat} (h : Wd ks)
include h

/-- What is next in a vertex's list, around its end. -/
theorem Wd.pl_next {v i p : Nat} (hp : (pl ks v)[i]? = some p) : (i + 1 < (pl ks v).length → (pl ks v)[i + 1]? = some (tn ks p)) ∧ (¬ i + 1 < (pl ks v).length → (pl ks v)[0]? = some (tn ks p)) := by
  obtain ⟨hpn, hpv⟩ := mem_pl.1 (List.mem_of_getElem? hp)
  obtain ⟨ht, htv, hc⟩ := h.tn_next hpn
  have htm : tn ks p ∈ pl ks v := mem_pl.2 ⟨ht, htv.trans hpv⟩
  obtain ⟨k, hk, hke⟩ := List.mem_iff_getElem.1 htm
  have hkt : (pl ks v)[k]? = some (tn ks p) := by rw [List.getElem?_eq_getElem hk, hke]
  have hil := lt_of_get hp
  constructor
  · intro hlt
    have hn := List.getElem?_eq_getElem hlt
    generalize (pl ks v)[i + 1] = q at *
    obtain ⟨hqn, hqv⟩ := mem_pl.1 (List.mem_of_getElem? hn)
    have h1 := (pl_lt hp hn).1 (by omega)
    rcases hc with ⟨h2, h3⟩ | ⟨h2, _⟩
    · have h4 := (pl_lt hp hkt).2 h2
      rw [hn]
      congr 1
      rcases Nat.lt_trichotomy q (tn ks p) with h5 | h5 | h5
      · exact absurd (hqv.trans hpv.symm) (h3 q h1 h5)
      · exact h5
      · have := (pl_lt hkt hn).2 h5; omega
    · exact absurd (hqv.trans hpv.symm) (h2 q h1 hqn)
  · intro hge
    have hn := List.getElem?_eq_getElem (l := pl ks v) (i := 0) (by omega)
    generalize (pl ks v)[0] = q at *
    obtain ⟨hqn, hqv⟩ := mem_pl.1 (List.mem_of_getElem? hn)
    rcases hc with ⟨h2, h3⟩ | ⟨h2, h3, h4⟩
    · have := (pl_lt hp hkt).2 h2; omega
    · rw [hn]
      congr 1
      rcases Nat.lt_trichotomy q (tn ks p) with h5 | h5 | h5
      · exact absurd (hqv.trans hpv.symm) (h4 q h5)
      · exact h5
      · have := (pl_lt hkt hn).2 h5; omega

/-- There are so many vertices. -/
theorem Wd.vx_lt {j p : Nat} (hj : p ≤ j) (hjn : j ≤ ks.length) : vx ks p < cntK (ks.take j) 0 + 1 := by
  rcases h.own_or (show p ≤ ks.length by omega) with h1 | ⟨o, ho⟩
  · rw [h.vx_none (by omega) h1]; omega
  · rw [h.vx_own (by omega) ho]
    have h1 := cnt0_succ ho.opens
    have h2 := cntK_mono ks 0 (show o + 1 ≤ j by have := ho.lt; omega)
    unfold vo; omega

omit h in
theorem stk_top (j : Nat) : ((0 :: (stk ks j).map (vo ks)).getLast?) = some (vx ks j) := by
  unfold vx
  rw [List.getLast?_cons, List.getLast?_map]
  cases hl : (stk ks j).getLast? <;> simp
end

/-- The lists of names, by vertices, when the first j places have been read. -/
noncomputable def lsj (ks : List Nat) (j : Nat) : List (List Nat) := (List.range (cntK (ks.take j) 0 + 1)).map fun v => (plj ks j v).map (nmD ks)

theorem lsj_length (ks : List Nat) (j : Nat) : (lsj ks j).length = cntK (ks.take j) 0 + 1 := by simp [lsj]
theorem lsj_get {ks : List Nat} {j v : Nat} (hv : v < cntK (ks.take j) 0 + 1) : (lsj ks j)[v]? = some ((plj ks j v).map (nmD ks)) := by simp [lsj, hv]

section
variable {ks : List Nat} (h : Wd ks)
include h

/-- One more place: its name comes to its vertex's list; a new vertex has none yet. -/
theorem Wd.lsj_step {j k : Nat} (hk : ks[j]? = some k) : lsj ks (j + 1) = (lsj ks j).set (vx ks j) ((plj ks j (vx ks j)).map (nmD ks) ++ [nmD ks j]) ++ if k = 0 then [[]] else [] := by
  have hj := lt_of_get hk
  have hv := h.vx_lt (Nat.le_refl j) (by omega)
  have hc : cntK (ks.take (j + 1)) 0 = cntK (ks.take j) 0 + if k = 0 then 1 else 0 := cntK_get hk 0
  apply List.ext_getElem?
  intro v
  have hnew : ∀ v, v = cntK (ks.take j) 0 + 1 → plj ks (j + 1) v = [] := by
    intro v hv2
    apply List.filter_eq_nil_iff.2
    intro p hp
    have hp := List.mem_range.1 hp
    have := h.vx_lt (show p ≤ j by omega) (show j ≤ ks.length by omega)
    simp; omega
  rcases Nat.lt_or_ge v (cntK (ks.take j) 0 + 1) with hlt | hge
  · rw [List.getElem?_append_left (by simp [lsj_length]; exact hlt), lsj_get (by omega), plj_succ]
    rw [List.getElem?_set]
    by_cases hvv : vx ks j = v
    · subst hvv
      rw [if_pos rfl, if_pos rfl, if_pos (by rw [lsj_length]; exact hlt)]
      simp
    · rw [if_neg hvv, if_neg hvv, lsj_get hlt]
      simp
  · rw [List.getElem?_append_right (by simp [lsj_length]; exact hge)]
    simp only [List.length_set, lsj_length]
    by_cases hk0 : k = 0
    · rw [if_pos hk0] at hc
      rw [if_pos hk0]
      rcases Nat.lt_or_ge v (cntK (ks.take j) 0 + 2) with h2 | h2
      · have hve : v = cntK (ks.take j) 0 + 1 := by omega
        rw [lsj_get (by omega), hnew v hve, hve, Nat.sub_self]
        rfl
      · rw [List.getElem?_eq_none (by rw [lsj_length]; omega), List.getElem?_eq_none (by simp; omega)]
    · rw [if_neg hk0] at hc
      rw [if_neg hk0, List.getElem?_eq_none (by rw [lsj_length]; omega)]
      simp

end
end Go.Proofs.YtipelclohcdkcaaGreat
