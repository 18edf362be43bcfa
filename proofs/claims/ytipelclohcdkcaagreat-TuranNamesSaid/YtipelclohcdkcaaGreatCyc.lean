/- Plain laws: how many orbits a permutation has, two places exchanged ahead of it; chords that cross cost orbits. No program is named here. -/
import Derived.Test.YtipelclohcdkcaaGreatVx
namespace Go.Proofs.YtipelclohcdkcaaGreat

/-- Two places exchanged. -/
def xch (i j d : Nat) : Nat := if d = i then j else if d = j then i else d

theorem xch_lt {n i j d : Nat} (hi : i < n) (hj : j < n) (hd : d < n) : xch i j d < n := by
  unfold xch
  split
  · exact hj
  · split
    · exact hi
    · exact hd
theorem xch_xch (i j d : Nat) : xch i j (xch i j d) = d := by
  unfold xch
  by_cases h1 : d = i
  · by_cases h2 : j = i
    · simp [h1, h2]
    · simp [h1, h2]
  · by_cases h2 : d = j
    · simp [h2]
    · simp [h1, h2]
theorem xch_fix {i j d : Nat} (hi : d ≠ i) (hj : d ≠ j) : xch i j d = d := by unfold xch; rw [if_neg hi, if_neg hj]

theorem IsP.tw {n : Nat} {S : Nat → Nat} (h : IsP n S) {i j : Nat} (hi : i < n) (hj : j < n) : IsP n (fun d => S (xch i j d)) :=
  ⟨fun d hd => h.lt _ (xch_lt hi hj hd), fun d e hd he hh => by
    have := h.inj _ _ (xch_lt hi hj hd) (xch_lt hi hj he) hh
    rw [← xch_xch i j d, this, xch_xch]⟩

theorem tw_itr {S : Nat → Nat} {i j d : Nat} (h1 : ¬ SameO S d i) (h2 : ¬ SameO S d j) (k : Nat) : itr (fun x => S (xch i j x)) k d = itr S k d := by
  induction k with
  | zero => rfl
  | succ k ih =>
    show S (xch i j (itr (fun x => S (xch i j x)) k d)) = S (itr S k d)
    rw [ih, xch_fix (fun e => h1 ⟨k, e⟩) (fun e => h2 ⟨k, e⟩)]

theorem tw_tw (S : Nat → Nat) (i j : Nat) : (fun x => (fun y => S (xch i j y)) (xch i j x)) = S := by
  funext x
  show S (xch i j (xch i j x)) = S x
  rw [xch_xch]

theorem tw_avoid {S : Nat → Nat} {i j d : Nat} (h1 : ¬ SameO S d i) (h2 : ¬ SameO S d j) : ¬ SameO (fun x => S (xch i j x)) d i ∧ ¬ SameO (fun x => S (xch i j x)) d j := by
  refine ⟨?_, ?_⟩
  · rintro ⟨k, hk⟩
    exact h1 ⟨k, by rw [← tw_itr h1 h2 k]; exact hk⟩
  · rintro ⟨k, hk⟩
    exact h2 ⟨k, by rw [← tw_itr h1 h2 k]; exact hk⟩

theorem tw_avoid' {S : Nat → Nat} {i j d : Nat} (h1 : ¬ SameO (fun x => S (xch i j x)) d i) (h2 : ¬ SameO (fun x => S (xch i j x)) d j) : ¬ SameO S d i ∧ ¬ SameO S d j := by
  have h := tw_avoid h1 h2
  rwa [tw_tw] at h

theorem tw_rep {n : Nat} {S : Nat → Nat} (h : IsP n S) {i j d : Nat} (hi : i < n) (hj : j < n) (hd : d < n) (h1 : ¬ SameO S d i) (h2 : ¬ SameO S d j) : rep (fun x => S (xch i j x)) d = rep S d := by
  have hT := h.tw hi hj
  refine Nat.le_antisymm (hT.rep_le hd ?_) (h.rep_le hd ?_)
  · obtain ⟨k, hk⟩ := h.rep_same hd
    exact ⟨k, by rw [tw_itr h1 h2]; exact hk⟩
  · obtain ⟨k, hk⟩ := hT.rep_same hd
    exact ⟨k, by rw [← tw_itr h1 h2 k]; exact hk⟩

/-- Leaders that are of neither orbit; of one of these. -/
noncomputable def ldA (n : Nat) (S : Nat → Nat) (i j : Nat) : List Nat := open Classical in (List.range n).filter fun x => decide (rep S x = x ∧ ¬ SameO S x i ∧ ¬ SameO S x j)
noncomputable def ldB (n : Nat) (S : Nat → Nat) (i j : Nat) : List Nat := open Classical in (List.range n).filter fun x => decide (rep S x = x ∧ ¬ (¬ SameO S x i ∧ ¬ SameO S x j))

theorem filter_parts {α : Type} (p q r : α → Bool) (h : ∀ x, p x = (q x || r x)) (hd : ∀ x, ¬ (q x = true ∧ r x = true)) : ∀ l : List α, (l.filter p).length = (l.filter q).length + (l.filter r).length
  | [] => rfl
  | x :: l => by
    have ih := filter_parts p q r h hd l
    have h1 := h x
    have h2 := hd x
    simp only [List.filter_cons]
    cases hq : q x <;> cases hr : r x <;> simp [hq, hr] at h1 h2 <;> simp [h1, ih] <;> omega

theorem ldr_parts (n : Nat) (S : Nat → Nat) (i j : Nat) : ldr S n = (ldA n S i j).length + (ldB n S i j).length := by
  unfold ldr ldA ldB
  refine filter_parts _ _ _ (fun x => ?_) (fun x => ?_) _
  · by_cases h1 : rep S x = x <;> by_cases h2 : (¬ SameO S x i ∧ ¬ SameO S x j) <;> simp [h1, h2]
  · simp only [decide_eq_true_eq]
    rintro ⟨⟨_, a⟩, _, b⟩
    exact b a

theorem ldA_tw {n : Nat} {S : Nat → Nat} (h : IsP n S) {i j : Nat} (hi : i < n) (hj : j < n) : ldA n (fun x => S (xch i j x)) i j = ldA n S i j := by
  unfold ldA
  refine List.filter_congr (fun x hx => ?_)
  have hx := List.mem_range.1 hx
  by_cases h2 : (¬ SameO S x i ∧ ¬ SameO S x j)
  · have h3 := tw_avoid h2.1 h2.2
    have h4 := tw_rep h hi hj hx h2.1 h2.2
    simp only [h2, h3, h4]
  · have h3 : ¬ (¬ SameO (fun y => S (xch i j y)) x i ∧ ¬ SameO (fun y => S (xch i j y)) x j) := fun hh => h2 (tw_avoid' hh.1 hh.2)
    simp [h2, h3]

theorem ldB_mem {n : Nat} {S : Nat → Nat} (h : IsP n S) {i j x : Nat} (hi : i < n) (hj : j < n) (hx : x ∈ ldB n S i j) : x = rep S i ∨ x = rep S j := by
  unfold ldB at hx
  simp only [List.mem_filter, List.mem_range, decide_eq_true_eq] at hx
  obtain ⟨hx, hr, ho⟩ := hx
  by_cases h1 : SameO S x i
  · left; rw [← hr]; exact (h.rep_iff hx hi).2 h1
  · by_cases h2 : SameO S x j
    · right; rw [← hr]; exact (h.rep_iff hx hj).2 h2
    · exact absurd ⟨h1, h2⟩ ho

theorem ldB_le {n : Nat} {S : Nat → Nat} (h : IsP n S) {i j : Nat} (hi : i < n) (hj : j < n) : (ldB n S i j).length ≤ 2 := by
  have := nodup_sub (ldB n S i j) [rep S i, rep S j] (List.Pairwise.filter _ List.nodup_range) (fun x hx => by
    rcases ldB_mem h hi hj hx with e | e <;> simp [e])
  simpa using this

theorem ldB_le1 {n : Nat} {S : Nat → Nat} (h : IsP n S) {i j : Nat} (hi : i < n) (hj : j < n) (hs : SameO S i j) : (ldB n S i j).length ≤ 1 := by
  have e := (h.rep_iff hi hj).2 hs
  have := nodup_sub (ldB n S i j) [rep S i] (List.Pairwise.filter _ List.nodup_range) (fun x hx => by
    rcases ldB_mem h hi hj hx with e' | e' <;> simp [e', e])
  simpa using this

theorem ldB_in {n : Nat} {S : Nat → Nat} (h : IsP n S) {i j : Nat} (hi : i < n) (hj : j < n) : rep S i ∈ ldB n S i j ∧ rep S j ∈ ldB n S i j := by
  unfold ldB
  simp only [List.mem_filter, List.mem_range, decide_eq_true_eq]
  exact ⟨⟨h.rep_lt hi, h.rep_rep hi, fun hh => hh.1 (h.sameO_symm hi (h.rep_same hi))⟩, ⟨h.rep_lt hj, h.rep_rep hj, fun hh => hh.2 (h.sameO_symm hj (h.rep_same hj))⟩⟩

theorem ldB_ge {n : Nat} {S : Nat → Nat} (h : IsP n S) {i j : Nat} (hi : i < n) (hj : j < n) : 1 ≤ (ldB n S i j).length :=
  List.length_pos_of_mem (ldB_in h hi hj).1

theorem ldB_ge2 {n : Nat} {S : Nat → Nat} (h : IsP n S) {i j : Nat} (hi : i < n) (hj : j < n) (hs : ¬ SameO S i j) : 2 ≤ (ldB n S i j).length := by
  have hne : rep S i ≠ rep S j := fun e => hs ((h.rep_iff hi hj).1 e)
  have := nodup_sub [rep S i, rep S j] (ldB n S i j) (by simp [hne]) (fun x hx => by
    have hb := ldB_in h hi hj
    simp only [List.mem_cons, List.not_mem_nil, or_false] at hx
    rcases hx with rfl | rfl
    · exact hb.1
    · exact hb.2)
  simpa using this

/-- One orbit more at most. -/
theorem ldr_tw_le {n : Nat} {S : Nat → Nat} (h : IsP n S) {i j : Nat} (hi : i < n) (hj : j < n) : ldr (fun x => S (xch i j x)) n ≤ ldr S n + 1 := by
  rw [ldr_parts n _ i j, ldr_parts n S i j, ldA_tw h hi hj]
  have h1 := ldB_le (h.tw hi hj) hi hj
  have h2 := ldB_ge h hi hj
  omega

theorem tw_join {n : Nat} {S : Nat → Nat} (h : IsP n S) {i j : Nat} (_hi : i < n) (hj : j < n) (hs : ¬ SameO S i j) : SameO (fun x => S (xch i j x)) i j := by
  obtain ⟨p0, _, p1, p2⟩ := h.per_spec hj
  have key : ∀ k, k + 1 ≤ per S j → itr (fun x => S (xch i j x)) (k + 1) i = itr S (k + 1) j := by
    intro k
    induction k with
    | zero =>
      intro _
      show S (xch i j i) = S j
      unfold xch
      rw [if_pos rfl]
    | succ k ih =>
      intro hk
      show S (xch i j (itr (fun x => S (xch i j x)) (k + 1) i)) = S (itr S (k + 1) j)
      rw [ih (by omega), xch_fix]
      · intro e
        exact hs (h.sameO_symm hj ⟨k + 1, e⟩)
      · exact p2 (k + 1) (by omega) (by omega)
  have := key (per S j - 1) (by omega)
  rw [Nat.sub_add_cancel p0, p1] at this
  exact ⟨_, this⟩

/-- Two orbits become one. -/
theorem ldr_tw_join {n : Nat} {S : Nat → Nat} (h : IsP n S) {i j : Nat} (hi : i < n) (hj : j < n) (hs : ¬ SameO S i j) : ldr (fun x => S (xch i j x)) n + 1 ≤ ldr S n := by
  rw [ldr_parts n _ i j, ldr_parts n S i j, ldA_tw h hi hj]
  have h1 := ldB_le1 (h.tw hi hj) hi hj (tw_join h hi hj hs)
  have h2 := ldB_ge2 h hi hj hs
  omega

/-- All places in one orbit. -/
theorem succ_isP {n : Nat} (hn : 0 < n) : IsP n (fun i => (i + 1) % n) :=
  ⟨fun _ _ => Nat.mod_lt _ hn, fun _ _ hd he hh => succ_mod_inj hd he hh⟩

theorem itr_succ_mod {n : Nat} : ∀ k, k < n → itr (fun i => (i + 1) % n) k 0 = k
  | 0, _ => rfl
  | k + 1, hk => by
    show (itr (fun i => (i + 1) % n) k 0 + 1) % n = k + 1
    rw [itr_succ_mod k (by omega), Nat.mod_eq_of_lt hk]

theorem ldr_succ_mod {n : Nat} (hn : 0 < n) : ldr (fun i => (i + 1) % n) n ≤ 1 := by
  have h := succ_isP hn
  have := nodup_sub ((List.range n).filter fun x => rep (fun i => (i + 1) % n) x == x) [0] (List.Pairwise.filter _ List.nodup_range) (fun x hx => by
    simp only [List.mem_filter, List.mem_range, beq_iff_eq] at hx
    obtain ⟨hx, hr⟩ := hx
    have h1 : rep (fun i => (i + 1) % n) x ≤ 0 := h.rep_le hx (h.sameO_symm hn ⟨x, itr_succ_mod x hx⟩)
    simp; omega)
  simpa [ldr] using this

/-- Chords on a round of n places: each place's other end (its own, where it has none). -/
structure Chd (n : Nat) (al : Nat → Nat) : Prop where
  lt : ∀ i, i < n → al i < n
  inv : ∀ i, i < n → al (al i) = i

/-- Those chords alone whose lower end has P. -/
def chP (al : Nat → Nat) (P : Nat → Bool) (i : Nat) : Nat := if P (min i (al i)) then al i else i

theorem chP_step {n : Nat} {al : Nat → Nat} (h : Chd n al) (P : Nat → Bool) {j : Nat} (hj : j < n) (hjl : j < al j) (hP : P j = false) {x : Nat} (hx : x < n) :
    chP al (fun y => P y || y == j) x = chP al P (xch j (al j) x) := by
  have hi := h.inv j hj
  unfold chP xch
  by_cases h1 : x = j
  · subst h1
    rw [if_pos rfl, hi, Nat.min_eq_left (Nat.le_of_lt hjl), Nat.min_eq_right (Nat.le_of_lt hjl), hP]
    simp
  · rw [if_neg h1]
    by_cases h2 : x = al j
    · subst h2
      rw [if_pos rfl, hi, Nat.min_eq_right (Nat.le_of_lt hjl), Nat.min_eq_left (Nat.le_of_lt hjl), hP]
      simp
    · rw [if_neg h2]
      have h3 : al x ≠ j := fun e => h2 (by rw [← e, h.inv x hx])
      have h4 : min x (al x) ≠ j := by omega
      simp [h4]

theorem chP_isP {n : Nat} {al : Nat → Nat} (h : Chd n al) (hn : 0 < n) (P : Nat → Bool) : IsP n (fun i => (chP al P i + 1) % n) := by
  have hlt : ∀ i, i < n → chP al P i < n := fun i hi => by
    unfold chP
    split
    · exact h.lt i hi
    · exact hi
  have hinv : ∀ i, i < n → chP al P (chP al P i) = i := fun i hi => by
    unfold chP
    by_cases hp : P (min i (al i)) = true
    · rw [if_pos hp, h.inv i hi, Nat.min_comm, if_pos hp]
    · rw [if_neg hp, if_neg hp]
  refine ⟨fun i _ => Nat.mod_lt _ hn, fun d e hd he hh => ?_⟩
  have := succ_mod_inj (hlt d hd) (hlt e he) hh
  rw [← hinv d hd, this, hinv e he]

/-- The lower ends below j, but two. -/
def lowC (al : Nat → Nat) (a b j : Nat) : Nat := ((List.range j).filter fun i => decide (i < al i) && !(i == a || i == b)).length
theorem lowC_succ (al : Nat → Nat) (a b j : Nat) : lowC al a b (j + 1) = lowC al a b j + if j < al j ∧ ¬ (j = a ∨ j = b) then 1 else 0 := by
  unfold lowC
  rw [List.range_succ, List.filter_append, List.length_append]
  by_cases h1 : j < al j <;> by_cases h2 : j = a <;> by_cases h3 : j = b <;> simp [h1, h2, h3]

theorem chd_more {n : Nat} {al : Nat → Nat} (h : Chd n al) (hn : 0 < n) (a b : Nat) : ∀ j, j ≤ n →
    ldr (fun i => (chP al (fun y => decide (y < j) || (y == a || y == b)) i + 1) % n) n ≤ ldr (fun i => (chP al (fun y => y == a || y == b) i + 1) % n) n + lowC al a b j := by
  intro j
  induction j with
  | zero =>
    intro _
    have e : (fun y : Nat => decide (y < 0) || (y == a || y == b)) = (fun y => y == a || y == b) := by funext y; simp
    rw [e]; exact Nat.le_add_right _ _
  | succ j ih =>
    intro hj
    have ih := ih (by omega)
    rw [lowC_succ]
    by_cases hab : j = a ∨ j = b
    · have e : (fun y : Nat => decide (y < j + 1) || (y == a || y == b)) = (fun y => decide (y < j) || (y == a || y == b)) := by
        funext y
        by_cases hy : y = j
        · subst hy
          rcases hab with e | e <;> simp [e]
        · have : decide (y < j + 1) = decide (y < j) := by congr 1; apply propext; omega
          rw [this]
      rw [e, if_neg (fun hh => hh.2 hab)]
      exact ih
    · by_cases hjl : j < al j
      · rw [if_pos ⟨hjl, hab⟩]
        have e : ∀ x, x < n → (chP al (fun y => decide (y < j + 1) || (y == a || y == b)) x + 1) % n = (chP al (fun y => decide (y < j) || (y == a || y == b)) (xch j (al j) x) + 1) % n := by
          intro x hx
          have hP : (decide (j < j) || (j == a || j == b)) = false := by simp; omega
          rw [← chP_step h (fun y => decide (y < j) || (y == a || y == b)) (by omega) hjl hP hx]
          have e2 : (fun y : Nat => decide (y < j + 1) || (y == a || y == b)) = (fun y => (decide (y < j) || (y == a || y == b)) || y == j) := by
            funext y
            rcases Nat.lt_trichotomy y j with h1 | h1 | h1
            · have h2 : y < j + 1 := by omega
              simp [h1, h2]
            · subst h1; simp
            · have h2 : ¬ y < j + 1 := by omega
              have h3 : ¬ y < j := by omega
              have h4 : ¬ y = j := by omega
              simp [h2, h3, h4]
          rw [e2]
        have h1 := chP_isP h hn (fun y => decide (y < j) || (y == a || y == b))
        have h2 := chP_isP h hn (fun y => decide (y < j + 1) || (y == a || y == b))
        have h3 := h1.tw (i := j) (j := al j) (by omega) (h.lt j (by omega))
        rw [ldr_congr h2 h3 e n (Nat.le_refl _)]
        have := ldr_tw_le h1 (i := j) (j := al j) (by omega) (h.lt j (by omega))
        omega
      · rw [if_neg (fun hh => hjl hh.1)]
        have e : ∀ x, x < n → (chP al (fun y => decide (y < j + 1) || (y == a || y == b)) x + 1) % n = (chP al (fun y => decide (y < j) || (y == a || y == b)) x + 1) % n := by
          intro x hx
          unfold chP
          by_cases h1 : min x (al x) = j
          · have h2 : al x = x := by
              have hxx := h.inv x hx
              rcases Nat.lt_trichotomy x (al x) with h2 | h2 | h2
              · exfalso; apply hjl; rw [← h1, Nat.min_eq_left (Nat.le_of_lt h2)]; exact h2
              · exact h2.symm
              · exfalso; apply hjl; rw [← h1, Nat.min_eq_right (Nat.le_of_lt h2), hxx]; exact h2
            rw [h2]; simp
          · have : decide (min x (al x) < j + 1) = decide (min x (al x) < j) := by congr 1; apply propext; omega
            simp only [this]
        rw [ldr_congr (chP_isP h hn _) (chP_isP h hn _) e n (Nat.le_refl _)]
        exact ih

theorem lowC_all {n : Nat} {al : Nat → Nat} {a b : Nat} (ha : a < n) (hb : b < n) (hab : a ≠ b) (hal : a < al a) (hbl : b < al b) : lowC al a b n + 2 = ((List.range n).filter fun i => decide (i < al i)).length := by
  have h1 : ((List.range n).filter fun i => decide (i < al i)).length = lowC al a b n + ((List.range n).filter fun i => decide (i < al i) && (i == a || i == b)).length := by
    unfold lowC
    refine filter_parts _ _ _ (fun x => ?_) (fun x => ?_) _
    · cases decide (x < al x) <;> cases (x == a || x == b) <;> rfl
    · cases decide (x < al x) <;> cases (x == a || x == b) <;> simp
  have h2 : 2 ≤ ((List.range n).filter fun i => decide (i < al i) && (i == a || i == b)).length := by
    have := nodup_sub [a, b] ((List.range n).filter fun i => decide (i < al i) && (i == a || i == b)) (by simp [hab]) (fun x hx => by
      simp only [List.mem_cons, List.not_mem_nil, or_false] at hx
      rcases hx with rfl | rfl
      · simp [ha, hal]
      · simp [hb, hbl])
    simpa using this
  have h3 : ((List.range n).filter fun i => decide (i < al i) && (i == a || i == b)).length ≤ 2 := by
    have := nodup_sub ((List.range n).filter fun i => decide (i < al i) && (i == a || i == b)) [a, b] (List.Pairwise.filter _ List.nodup_range) (fun x hx => by
      simp only [List.mem_filter, Bool.and_eq_true, Bool.or_eq_true, beq_iff_eq] at hx
      rcases hx.2.2 with e | e <;> simp [e])
    simpa using this
  omega

/-- Where as many orbits are as chords no two chords cross. -/
theorem no_cross {n : Nat} {al : Nat → Nat} (h : Chd n al) (hF : ((List.range n).filter fun i => decide (i < al i)).length ≤ ldr (fun i => (al i + 1) % n) n)
    {a b : Nat} (hb : b < n) (hab : a < b) (h1 : b < al a) (h2 : al a < al b) : False := by
  have hn : 0 < n := by omega
  have ha : a < n := by omega
  have hal : al a < n := h.lt a ha
  have hbl : al b < n := h.lt b hb
  have hm := chd_more h hn a b n (Nat.le_refl _)
  have e1 : ∀ x, x < n → (chP al (fun y => decide (y < n) || (y == a || y == b)) x + 1) % n = (al x + 1) % n := by
    intro x hx
    unfold chP
    have : min x (al x) < n := by omega
    simp [this]
  have hF0 : IsP n (fun i => (al i + 1) % n) := (chP_isP h hn (fun y => decide (y < n) || (y == a || y == b))).congr (fun d hd => (e1 d hd).symm)
  rw [ldr_congr (chP_isP h hn _) hF0 e1 n (Nat.le_refl _)] at hm
  have hc := succ_isP hn
  have hT1 := hc.tw (i := a) (j := al a) ha hal
  have hT2 := hT1.tw (i := b) (j := al b) hb hbl
  have e2 : ∀ x, x < n → (chP al (fun y => y == a || y == b) x + 1) % n = (fun d => (fun i => (i + 1) % n) (xch a (al a) d)) (xch b (al b) x) := by
    intro x hx
    show (chP al (fun y => y == a || y == b) x + 1) % n = (xch a (al a) (xch b (al b) x) + 1) % n
    have ia := h.inv a ha
    have ib := h.inv b hb
    have s1 := chP_step h (fun y => y == a) hb (by omega) (by simp; omega) hx
    rw [s1]
    have s2 := chP_step h (fun _ => false) ha (by omega) rfl (x := xch b (al b) x) (xch_lt hb hbl hx)
    have e3 : (fun y : Nat => false || y == a) = (fun y => y == a) := by funext y; simp
    rw [e3] at s2
    rw [s2]
    unfold chP
    simp
  rw [ldr_congr (chP_isP h hn _) hT2 e2 n (Nat.le_refl _)] at hm
  have c1 := ldr_succ_mod hn
  have c2 := ldr_tw_le hc (i := a) (j := al a) ha hal
  have hsep : ¬ SameO (fun x => (fun i => (i + 1) % n) (xch a (al a) x)) b (al b) := by
    rintro ⟨k, hk⟩
    have inv : ∀ k, a < itr (fun x => (fun i => (i + 1) % n) (xch a (al a) x)) k b ∧ itr (fun x => (fun i => (i + 1) % n) (xch a (al a) x)) k b ≤ al a := by
      intro k
      induction k with
      | zero => exact ⟨hab, Nat.le_of_lt h1⟩
      | succ k ih =>
        obtain ⟨i1, i2⟩ := ih
        generalize hx : itr (fun x => (fun i => (i + 1) % n) (xch a (al a) x)) k b = x at i1 i2
        have e4 : itr (fun x => (fun i => (i + 1) % n) (xch a (al a) x)) (k + 1) b = (xch a (al a) x + 1) % n := by rw [← hx]; rfl
        rw [e4]
        unfold xch
        rw [if_neg (by omega)]
        by_cases hxa : x = al a
        · rw [if_pos hxa, Nat.mod_eq_of_lt (by omega)]
          omega
        · rw [if_neg hxa, Nat.mod_eq_of_lt (by omega)]
          omega
    have := (inv k).2
    rw [hk] at this
    omega
  have c3 := ldr_tw_join hT1 hb hbl hsep
  have c4 := lowC_all ha hb (by omega) (by omega : a < al a) (by omega : b < al b)
  omega

end Go.Proofs.YtipelclohcdkcaaGreat
