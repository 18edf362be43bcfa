/- LookSums: plain laws of sums of degrees, and of the darts seen along faces. -/
import Derived.Test.YtipelclohcdkcaaGreatEqual
namespace Go.Proofs.YtipelclohcdkcaaGreat

theorem sum_ind (g : Nat → Nat) (x : Nat) : ∀ V : Nat, ((List.range V).map fun v => g v + if x = v then 1 else 0).sum = ((List.range V).map g).sum + if x < V then 1 else 0
  | 0 => by simp
  | V + 1 => by
    rw [List.range_succ, List.map_append, List.sum_append, List.map_append, List.sum_append, sum_ind g x V]
    simp only [List.map_cons, List.map_nil, List.sum_cons, List.sum_nil]
    by_cases h1 : x = V
    · rw [if_pos h1, if_neg (by omega), if_pos (by omega)]; omega
    · rw [if_neg h1]
      by_cases h2 : x < V
      · rw [if_pos h2, if_pos (by omega)]; omega
      · rw [if_neg h2, if_neg (by omega)]; omega

theorem sum_plj (ks : List Nat) (V : Nat) : ∀ j, (∀ p, p < j → vx ks p < V) → ((List.range V).map fun v => (plj ks j v).length).sum = j
  | 0, _ => by
    have : ∀ V : Nat, ((List.range V).map fun v => (plj ks 0 v).length).sum = 0 := fun V => by
      induction V with
      | zero => rfl
      | succ V ih => rw [List.range_succ, List.map_append, List.sum_append, ih]; simp [plj]
    exact this V
  | j + 1, h => by
    have h1 := sum_plj ks V j (fun p hp => h p (by omega))
    have h2 := sum_ind (fun v => (plj ks j v).length) (vx ks j) V
    rw [if_pos (h j (by omega)), h1] at h2
    refine Eq.trans (congrArg List.sum (List.map_congr_left (fun v _ => ?_))) h2
    rw [plj_succ, List.length_append]
    split <;> rfl

/-- The degrees of the first v vertices together. -/
def dsum (ks : List Nat) (v : Nat) : Nat := ((List.range v).map fun v => (pl ks v).length).sum
theorem dsum_succ (ks : List Nat) (v : Nat) : dsum ks (v + 1) = dsum ks v + (pl ks v).length := by
  unfold dsum; rw [List.range_succ, List.map_append, List.sum_append]; simp
theorem Wd.dsum_all {ks : List Nat} (h : Wd ks) : dsum ks (nvK ks) = ks.length := by
  unfold dsum pl
  refine sum_plj ks (nvK ks) ks.length (fun p hp => ?_)
  have := h.vx_lt (Nat.le_of_lt hp) (Nat.le_refl _)
  rwa [List.take_of_length_le (Nat.le_refl _)] at this

/-- What was seen ahead of place i, and c places along its face. -/
noncomputable def seenF (n : Nat) (S : Nat → Nat) (i c k : Nat) : Option Nat :=
  if (k < n ∧ rep S k < i) ∨ k ∈ (orb S i).take c then some 1 else none

theorem seenF_next {n : Nat} {S : Nat → Nat} (i c x : Nat) (hx : (orb S i)[c]? = some x) : updF (seenF n S i c) x 1 = seenF n S i (c + 1) := by
  funext k
  unfold updF seenF
  rw [take_get hx]
  by_cases h : k = x
  · rw [if_pos h, if_pos (.inr (by rw [h]; simp))]
  · rw [if_neg h]
    simp only [List.mem_append, List.mem_singleton, h, or_false]

theorem IsP.seenF_new {n : Nat} {S : Nat → Nat} (h : IsP n S) {i c x : Nat} (hi : i < n) (hr : rep S i = i) (hx : (orb S i)[c]? = some x) : seenF n S i c x = none := by
  unfold seenF
  refine if_neg ?_
  have hm : SameO S i x := (h.mem_orb hi).1 (List.mem_of_getElem? hx)
  have hxn := h.sameO_lt hi hm
  rintro (⟨_, h1⟩ | h1)
  · have := (h.rep_iff hi hxn).2 hm
    omega
  · have hg : ∀ a y : Nat, (orb S i)[a]? = some y → a < per S i ∧ itr S a i = y := fun a y hy => by
      have ha := lt_of_get hy
      rw [orb_length] at ha
      unfold orb at hy
      rw [List.getElem?_map, List.getElem?_range ha] at hy
      exact ⟨ha, by simpa using hy⟩
    obtain ⟨a, ha⟩ := List.mem_iff_getElem?.1 h1
    have hac : a < c := by have := lt_of_get ha; rw [List.length_take] at this; omega
    rw [List.getElem?_take, if_pos hac] at ha
    obtain ⟨g1, g2⟩ := hg a x ha
    obtain ⟨g3, g4⟩ := hg c x hx
    have := h.itr_diff hi g1 g3 (g2.trans g4.symm)
    omega

theorem IsP.seenF_done {n : Nat} {S : Nat → Nat} (h : IsP n S) {i : Nat} (hi : i < n) (hr : rep S i = i) : seenF n S i (per S i) = seenF n S (i + 1) 0 := by
  funext k
  unfold seenF
  rw [List.take_of_length_le (by rw [orb_length]; exact Nat.le_refl _), List.take_zero]
  have key : ((k < n ∧ rep S k < i) ∨ k ∈ orb S i) ↔ ((k < n ∧ rep S k < i + 1) ∨ k ∈ ([] : List Nat)) := by
    rw [h.mem_orb hi]
    constructor
    · rintro (⟨h1, h2⟩ | h1)
      · exact .inl ⟨h1, by omega⟩
      · have hk := h.sameO_lt hi h1
        have := (h.rep_iff hi hk).2 h1
        exact .inl ⟨hk, by omega⟩
    · rintro (⟨h1, h2⟩ | h1)
      · rcases Nat.lt_or_ge (rep S k) i with h3 | h3
        · exact .inl ⟨h1, h3⟩
        · exact .inr ((h.rep_iff hi h1).1 (by omega))
      · cases h1
  by_cases hc : (k < n ∧ rep S k < i) ∨ k ∈ orb S i
  · rw [if_pos hc, if_pos (key.1 hc)]
  · rw [if_neg hc, if_neg (fun h2 => hc (key.2 h2))]

theorem IsP.seenF_old {n : Nat} {S : Nat → Nat} (h : IsP n S) {i : Nat} (hi : i < n) (hr : rep S i ≠ i) : seenF n S i 0 = seenF n S (i + 1) 0 ∧ seenF n S i 0 i = some 1 := by
  have hle := h.rep_le hi (SameO.refl S i)
  constructor
  · funext k
    unfold seenF
    have key : (k < n ∧ rep S k < i) ↔ (k < n ∧ rep S k < i + 1) := by
      constructor
      · rintro ⟨h1, h2⟩; exact ⟨h1, by omega⟩
      · rintro ⟨h1, h2⟩
        refine ⟨h1, ?_⟩
        rcases Nat.lt_or_ge (rep S k) i with h3 | h3
        · exact h3
        · have h4 : rep S k = i := by omega
          have := h.rep_rep h1
          rw [h4] at this
          exact absurd this hr
    simp only [List.take_zero, List.not_mem_nil, or_false, key]
  · unfold seenF
    exact if_pos (.inl ⟨hi, by omega⟩)

theorem seenF_zero (n : Nat) (S : Nat → Nat) : seenF n S 0 0 = fun _ => none := by
  funext k; unfold seenF; simp

theorem IsP.seenF_all {n : Nat} {S : Nat → Nat} (h : IsP n S) {k : Nat} (hk : k < n) : seenF n S n 0 k = some 1 := by
  unfold seenF; exact if_pos (.inl ⟨hk, h.rep_lt hk⟩)

theorem IsP.seenF_fresh {n : Nat} {S : Nat → Nat} (_h : IsP n S) {i : Nat} (hr : rep S i = i) : seenF n S i 0 i = none := by
  unfold seenF
  refine if_neg ?_
  rintro (⟨_, h1⟩ | h1)
  · omega
  · simp at h1

end Go.Proofs.YtipelclohcdkcaaGreat
