/- Joined texts. -/
import Derived.Test.YtblkkcpeodoclaaGreatDoorPtParens
import Derived.Test.YtblkkcpeodoclaaGreatDoorPtMixed

/- Plain laws of permutations of the numbers below n: turns, orbits, names of orbits. No program is named here. -/
namespace Go.Proofs.YtblkkcpeodoclaaGreatDoor

def itr (S : Nat → Nat) : Nat → Nat → Nat
  | 0, d => d
  | k + 1, d => S (itr S k d)

theorem itr_add (S : Nat → Nat) (a b d : Nat) : itr S (a + b) d = itr S a (itr S b d) := by
  induction a with
  | zero => simp [itr]
  | succ a ih => rw [Nat.succ_add]; simp only [itr, ih]

/-- A permutation of the numbers below n. -/
structure IsP (n : Nat) (S : Nat → Nat) : Prop where
  lt : ∀ d, d < n → S d < n
  inj : ∀ d e, d < n → e < n → S d = S e → d = e

theorem filter_ne_len (n : Nat) : ∀ l : List Nat, l.Nodup → l.length ≤ (l.filter (fun x => x != n)).length + 1
  | [], _ => by simp
  | x :: l, h => by
    rw [List.nodup_cons] at h
    by_cases hx : x = n
    · subst hx
      have : l.filter (fun y => y != x) = l := List.filter_eq_self.2 (fun y hy => by
        rw [bne_iff_ne]; rintro rfl; exact h.1 hy)
      rw [List.filter_cons, if_neg (by simp), this]
      simp
    · have := filter_ne_len n l h.2
      rw [List.filter_cons, if_pos (by simpa using hx)]
      simp only [List.length_cons]
      omega

theorem nodup_le : ∀ (n : Nat) (l : List Nat), l.Nodup → (∀ x ∈ l, x < n) → l.length ≤ n
  | 0, l, _, h => by
    cases l with
    | nil => simp
    | cons x l => exact absurd (h x (by simp)) (by omega)
  | n + 1, l, hd, h => by
    have h1 := nodup_le n (l.filter (fun x => x != n)) (hd.filter _) (fun x hx => by
      obtain ⟨h1, h2⟩ := List.mem_filter.1 hx
      have := h x h1
      have h3 : x ≠ n := by simpa using h2
      omega)
    have h2 := filter_ne_len n l hd
    omega

/-- A list without repeats whose members are all in another one is no longer. -/
theorem nodup_sub : ∀ (l m : List Nat), l.Nodup → (∀ x ∈ l, x ∈ m) → l.length ≤ m.length
  | [], m, _, _ => by simp
  | x :: l, m, hd, h => by
    rw [List.nodup_cons] at hd
    have hx := h x (by simp)
    have h1 := nodup_sub l (m.erase x) hd.2 (fun y hy => (List.mem_erase_of_ne (by rintro rfl; exact hd.1 hy)).2 (h y (by simp [hy])))
    rw [List.length_erase_of_mem hx] at h1
    have : 0 < m.length := List.length_pos_of_mem hx
    simp only [List.length_cons]
    omega

theorem nodup_eq_len {l m : List Nat} (hl : l.Nodup) (hm : m.Nodup) (h : ∀ x, x ∈ l ↔ x ∈ m) : l.length = m.length :=
  Nat.le_antisymm (nodup_sub l m hl (fun x hx => (h x).1 hx)) (nodup_sub m l hm (fun x hx => (h x).2 hx))

section
variable {n : Nat} {S : Nat → Nat} (h : IsP n S)
include h

theorem IsP.itr_lt {d : Nat} (hd : d < n) (k : Nat) : itr S k d < n := by
  induction k with
  | zero => exact hd
  | succ k ih => exact h.lt _ ih

theorem IsP.itr_inj {d e : Nat} (hd : d < n) (he : e < n) (k : Nat) (hk : itr S k d = itr S k e) : d = e := by
  induction k with
  | zero => exact hk
  | succ k ih => exact ih (h.inj _ _ (h.itr_lt hd k) (h.itr_lt he k) hk)

theorem IsP.ret {d : Nat} (hd : d < n) : ∃ p, 0 < p ∧ p ≤ n ∧ itr S p d = d := by
  apply Classical.byContradiction
  intro hno
  have hne : ∀ i j, i < j → j ≤ n → itr S i d ≠ itr S j d := by
    intro i j hij hj he
    refine hno ⟨j - i, by omega, by omega, ?_⟩
    have e1 : itr S j d = itr S i (itr S (j - i) d) := by rw [← itr_add]; congr 1; omega
    rw [e1] at he
    exact (h.itr_inj hd (h.itr_lt hd _) i he).symm
  have hnd : ((List.range (n + 1)).map fun i => itr S i d).Nodup := by
    rw [List.Nodup, List.pairwise_iff_getElem]
    intro i j hi hj hij
    simp only [List.length_map, List.length_range] at hi hj
    simp only [List.getElem_map, List.getElem_range]
    exact hne i j hij (by omega)
  have := nodup_le n _ hnd (fun x hx => by
    obtain ⟨i, _, rfl⟩ := List.mem_map.1 hx
    exact h.itr_lt hd i)
  simp at this
  omega
end

/-- How many turns bring a number back. -/
noncomputable def per (S : Nat → Nat) (d : Nat) : Nat :=
  open Classical in if h : ∃ p, 0 < p ∧ itr S p d = d ∧ ∀ i, 0 < i → i < p → itr S i d ≠ d then h.choose else 0

section
variable {n : Nat} {S : Nat → Nat} (h : IsP n S)
include h

theorem IsP.per_spec {d : Nat} (hd : d < n) : 0 < per S d ∧ per S d ≤ n ∧ itr S (per S d) d = d ∧ ∀ i, 0 < i → i < per S d → itr S i d ≠ d := by
  obtain ⟨p, hp0, hpn, hp⟩ := h.ret hd
  have hex : ∃ p, 0 < p ∧ itr S p d = d ∧ ∀ i, 0 < i → i < p → itr S i d ≠ d := by
    obtain ⟨q, h1, h2, h3, h4⟩ := first_of (fun i => itr S i d = d) 1 (p - 1) (by rw [show 1 + (p - 1) = p by omega]; exact hp)
    exact ⟨q, h1, h3, fun i hi hq => h4 i hi hq⟩
  have hper : per S d = hex.choose := by unfold per; rw [dif_pos hex]
  obtain ⟨h1, h2, h3⟩ := hex.choose_spec
  rw [← hper] at h1 h2 h3
  refine ⟨h1, ?_, h2, h3⟩
  rcases Nat.lt_or_ge p (per S d) with hlt | hge
  · exact absurd hp (h3 p hp0 hlt)
  · omega

theorem IsP.itr_mul {d : Nat} (hd : d < n) (q : Nat) : itr S (per S d * q) d = d := by
  induction q with
  | zero => rfl
  | succ q ih => rw [Nat.mul_succ, Nat.add_comm, itr_add, ih, (h.per_spec hd).2.2.1]

theorem IsP.itr_mod {d : Nat} (hd : d < n) (k : Nat) : itr S k d = itr S (k % per S d) d := by
  conv => lhs; rw [← Nat.mod_add_div k (per S d), itr_add, h.itr_mul hd]

theorem IsP.itr_diff {d : Nat} (hd : d < n) {i j : Nat} (hi : i < per S d) (hj : j < per S d) (he : itr S i d = itr S j d) : i = j := by
  rcases Nat.lt_trichotomy i j with hlt | rfl | hlt
  · have e1 : itr S j d = itr S i (itr S (j - i) d) := by rw [← itr_add]; congr 1; omega
    rw [e1] at he
    exact absurd (h.itr_inj hd (h.itr_lt hd _) i he).symm ((h.per_spec hd).2.2.2 _ (by omega) (by omega))
  · rfl
  · have e1 : itr S i d = itr S j (itr S (i - j) d) := by rw [← itr_add]; congr 1; omega
    rw [e1] at he
    exact absurd (h.itr_inj (h.itr_lt hd _) hd j he) ((h.per_spec hd).2.2.2 _ (by omega) (by omega))
end

/-- By turns one comes from a number to another. -/
def SameO (S : Nat → Nat) (d e : Nat) : Prop := ∃ k, itr S k d = e

theorem SameO.refl (S : Nat → Nat) (d : Nat) : SameO S d d := ⟨0, rfl⟩
theorem SameO.trans {S : Nat → Nat} {d e f : Nat} (h : SameO S d e) (k : SameO S e f) : SameO S d f := by
  obtain ⟨i, rfl⟩ := h
  obtain ⟨j, rfl⟩ := k
  exact ⟨j + i, itr_add S j i d⟩
section
variable {n : Nat} {S : Nat → Nat} (h : IsP n S)
include h

theorem IsP.sameO_symm {d e : Nat} (hd : d < n) (hs : SameO S d e) : SameO S e d := by
  obtain ⟨k, rfl⟩ := hs
  have h0 := (h.per_spec hd).1
  refine ⟨per S d * (k + 1) - k, ?_⟩
  rw [← itr_add]
  have : k ≤ per S d * (k + 1) := Nat.le_trans (by omega) (Nat.le_mul_of_pos_left (k + 1) h0)
  rw [Nat.sub_add_cancel this, h.itr_mul hd]

theorem IsP.sameO_lt {d e : Nat} (hd : d < n) (hs : SameO S d e) : e < n := by
  obtain ⟨k, rfl⟩ := hs
  exact h.itr_lt hd k

theorem IsP.sameO_ex {d e : Nat} (hd : d < n) (hs : SameO S d e) : ∃ i, i < per S d ∧ itr S i d = e := by
  obtain ⟨k, rfl⟩ := hs
  exact ⟨k % per S d, Nat.mod_lt _ (h.per_spec hd).1, (h.itr_mod hd k).symm⟩

end

/-- The orbit from one on. -/
noncomputable def orb (S : Nat → Nat) (d : Nat) : List Nat := (List.range (per S d)).map fun i => itr S i d

theorem orb_length (S : Nat → Nat) (d : Nat) : (orb S d).length = per S d := by simp [orb]
theorem orb_get {S : Nat → Nat} {d i : Nat} (hi : i < per S d) : (orb S d)[i]? = some (itr S i d) := by simp [orb, hi]

section
variable {n : Nat} {S : Nat → Nat} (h : IsP n S)
include h

theorem IsP.mem_orb {d e : Nat} (hd : d < n) : e ∈ orb S d ↔ SameO S d e := by
  constructor
  · intro he
    obtain ⟨i, _, rfl⟩ := List.mem_map.1 he
    exact ⟨i, rfl⟩
  · intro hs
    obtain ⟨i, hi, rfl⟩ := h.sameO_ex hd hs
    exact List.mem_map.2 ⟨i, List.mem_range.2 hi, rfl⟩

theorem IsP.orb_nodup {d : Nat} (hd : d < n) : (orb S d).Nodup := by
  rw [List.Nodup, List.pairwise_iff_getElem]
  intro i j hi hj hij he
  rw [orb_length] at hi hj
  simp only [orb, List.getElem_map, List.getElem_range] at he
  have := h.itr_diff hd hi hj he
  omega
end

theorem foldl_min_le : ∀ (l : List Nat) (a : Nat), l.foldl min a ≤ a ∧ ∀ x ∈ l, l.foldl min a ≤ x
  | [], a => ⟨Nat.le_refl _, fun x h => by cases h⟩
  | y :: l, a => by
    obtain ⟨h1, h2⟩ := foldl_min_le l (min a y)
    refine ⟨by simp only [List.foldl_cons]; omega, fun x hx => ?_⟩
    simp only [List.foldl_cons]
    rcases List.mem_cons.1 hx with rfl | hx
    · omega
    · exact h2 x hx

theorem foldl_min_mem : ∀ (l : List Nat) (a : Nat), l.foldl min a = a ∨ l.foldl min a ∈ l
  | [], a => .inl rfl
  | y :: l, a => by
    simp only [List.foldl_cons]
    rcases foldl_min_mem l (min a y) with h | h
    · rw [h]
      rcases Nat.le_total a y with hle | hle
      · exact .inl (Nat.min_eq_left hle)
      · exact .inr (by rw [Nat.min_eq_right hle]; simp)
    · exact .inr (by simp [h])

/-- The least one of an orbit. -/
noncomputable def rep (S : Nat → Nat) (d : Nat) : Nat := (orb S d).foldl min d

section
variable {n : Nat} {S : Nat → Nat} (h : IsP n S)
include h

theorem IsP.rep_same {d : Nat} (hd : d < n) : SameO S d (rep S d) := by
  rcases foldl_min_mem (orb S d) d with h1 | h1
  · unfold rep; rw [h1]; exact SameO.refl S d
  · exact (h.mem_orb hd).1 h1

theorem IsP.rep_le {d e : Nat} (hd : d < n) (hs : SameO S d e) : rep S d ≤ e := (foldl_min_le (orb S d) d).2 e ((h.mem_orb hd).2 hs)

theorem IsP.rep_lt {d : Nat} (hd : d < n) : rep S d < n := h.sameO_lt hd (h.rep_same hd)

theorem IsP.rep_iff {d e : Nat} (hd : d < n) (he : e < n) : rep S d = rep S e ↔ SameO S d e := by
  constructor
  · intro hr
    have h1 := h.rep_same hd
    rw [hr] at h1
    exact h1.trans (h.sameO_symm he (h.rep_same he))
  · intro hs
    exact Nat.le_antisymm (h.rep_le hd (hs.trans (h.rep_same he))) (h.rep_le he ((h.sameO_symm hd hs).trans (h.rep_same hd)))

theorem IsP.rep_rep {d : Nat} (hd : d < n) : rep S (rep S d) = rep S d := ((h.rep_iff hd (h.rep_lt hd)).2 (h.rep_same hd)).symm
end

/-- How many orbits have their least one below i. -/
noncomputable def ldr (S : Nat → Nat) (i : Nat) : Nat := ((List.range i).filter fun x => rep S x == x).length
/-- The name of a number's orbit. -/
noncomputable def vnum (S : Nat → Nat) (d : Nat) : Nat := ldr S (rep S d)

theorem ldr_succ (S : Nat → Nat) (i : Nat) : ldr S (i + 1) = ldr S i + if rep S i = i then 1 else 0 := by
  unfold ldr
  rw [List.range_succ, List.filter_append, List.length_append]
  by_cases hi : rep S i = i <;> simp [hi]
theorem ldr_mono (S : Nat → Nat) {i j : Nat} (hij : i ≤ j) : ldr S i ≤ ldr S j := by
  induction j with
  | zero => rw [show i = 0 by omega]; exact Nat.le_refl _
  | succ j ih =>
    rcases Nat.lt_or_ge i (j + 1) with hlt | hge
    · have := ldr_succ S j
      have := ih (by omega)
      omega
    · rw [show i = j + 1 by omega]; exact Nat.le_refl _
theorem ldr_le (S : Nat → Nat) (i : Nat) : ldr S i ≤ i := by
  unfold ldr
  exact Nat.le_trans (List.length_filter_le _ _) (by simp)

section
variable {n : Nat} {S : Nat → Nat} (h : IsP n S)
include h

theorem IsP.vnum_lt {d : Nat} (hd : d < n) : vnum S d < ldr S n := by
  have h1 := ldr_succ S (rep S d)
  rw [if_pos (h.rep_rep hd)] at h1
  have h2 := ldr_mono S (show rep S d + 1 ≤ n from h.rep_lt hd)
  unfold vnum
  omega

/-- What is marked when the orbits of those below i are: names of just those whose least one is below i. -/
theorem IsP.mark_step {i x : Nat} (hi : i < n) (hx : x < n) (hr : rep S i = i) : (rep S x < i + 1 ↔ rep S x < i ∨ x ∈ orb S i) ∧ (x ∈ orb S i → vnum S x = ldr S i ∧ ¬ rep S x < i) := by
  have h1 : x ∈ orb S i ↔ rep S x = i := by
    rw [h.mem_orb hi, ← h.rep_iff hi hx, hr]
    exact eq_comm
  refine ⟨?_, fun hm => ?_⟩
  · rw [h1]; omega
  · have := h1.1 hm
    exact ⟨by unfold vnum; rw [this], by omega⟩

theorem IsP.mark_skip {i x : Nat} (hx : x < n) (hr : rep S i ≠ i) : rep S x < i + 1 ↔ rep S x < i := by
  constructor
  · intro hlt
    rcases Nat.lt_or_ge (rep S x) i with h1 | h1
    · exact h1
    · have : rep S x = i := by omega
      exact absurd (by rw [← this]; exact h.rep_rep hx) hr
  · omega

theorem IsP.rep_self_le {i : Nat} (hi : i < n) : rep S i ≤ i := h.rep_le hi (SameO.refl S i)
end

/-- The other dart of an edge. -/
def mt (d : Nat) : Nat := if d % 2 = 0 then d + 1 else d - 1
theorem mt_mt (d : Nat) : mt (mt d) = d := by unfold mt; split <;> split <;> omega
theorem mt_lt {n d : Nat} (he : n % 2 = 0) (h : d < n) : mt d < n := by unfold mt; split <;> omega


end Go.Proofs.YtblkkcpeodoclaaGreatDoor

/- Plain laws of the walk around a map: what is told is a right word. No program is named here. -/
namespace Go.Proofs.YtblkkcpeodoclaaGreatDoor

def bb (k : Nat) : Int := if k = 2 then 1 else if k = 3 then -1 else 0



/-! Right words, as the index of a word sees them. -/

end Go.Proofs.YtblkkcpeodoclaaGreatDoor
