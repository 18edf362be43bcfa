/- Joined texts: Cyc, Plan. -/
import Derived.Test.YtblkkcpeodoclaaGreatDoorVx
import Derived.Test.YtblkkcpeodoclaaGreatDoorWlk

/- Plain laws: how many orbits a permutation has, two places exchanged ahead of it; chords that cross cost orbits. No program is named here. -/
namespace Go.Proofs.YtblkkcpeodoclaaGreatDoor

/-- Two places exchanged. -/
def xch (i j d : Nat) : Nat := if d = i then j else if d = j then i else d

theorem xch_lt {n i j d : Nat} (hi : i < n) (hj : j < n) (hd : d < n) : xch i j d < n := by
  unfold xch
  split
  · exact hj
  · split
    · exact hi
    · exact hd
theorem xch_xch (i j d : Nat) : xch i j (xch i j d) = d := by
  unfold xch
  by_cases h1 : d = i
  · by_cases h2 : j = i
    · simp [h1, h2]
    · simp [h1, h2]
  · by_cases h2 : d = j
    · simp [h2]
    · simp [h1, h2]
theorem xch_fix {i j d : Nat} (hi : d ≠ i) (hj : d ≠ j) : xch i j d = d := by unfold xch; rw [if_neg hi, if_neg hj]

theorem IsP.tw {n : Nat} {S : Nat → Nat} (h : IsP n S) {i j : Nat} (hi : i < n) (hj : j < n) : IsP n (fun d => S (xch i j d)) :=
  ⟨fun d hd => h.lt _ (xch_lt hi hj hd), fun d e hd he hh => by
    have := h.inj _ _ (xch_lt hi hj hd) (xch_lt hi hj he) hh
    rw [← xch_xch i j d, this, xch_xch]⟩

theorem tw_itr {S : Nat → Nat} {i j d : Nat} (h1 : ¬ SameO S d i) (h2 : ¬ SameO S d j) (k : Nat) : itr (fun x => S (xch i j x)) k d = itr S k d := by
  induction k with
  | zero => rfl
  | succ k ih =>
    show S (xch i j (itr (fun x => S (xch i j x)) k d)) = S (itr S k d)
    rw [ih, xch_fix (fun e => h1 ⟨k, e⟩) (fun e => h2 ⟨k, e⟩)]

theorem tw_tw (S : Nat → Nat) (i j : Nat) : (fun x => (fun y => S (xch i j y)) (xch i j x)) = S := by
  funext x
  show S (xch i j (xch i j x)) = S x
  rw [xch_xch]

theorem tw_avoid {S : Nat → Nat} {i j d : Nat} (h1 : ¬ SameO S d i) (h2 : ¬ SameO S d j) : ¬ SameO (fun x => S (xch i j x)) d i ∧ ¬ SameO (fun x => S (xch i j x)) d j := by
  refine ⟨?_, ?_⟩
  · rintro ⟨k, hk⟩
    exact h1 ⟨k, by rw [← tw_itr h1 h2 k]; exact hk⟩
  · rintro ⟨k, hk⟩
    exact h2 ⟨k, by rw [← tw_itr h1 h2 k]; exact hk⟩

theorem tw_avoid' {S : Nat → Nat} {i j d : Nat} (h1 : ¬ SameO (fun x => S (xch i j x)) d i) (h2 : ¬ SameO (fun x => S (xch i j x)) d j) : ¬ SameO S d i ∧ ¬ SameO S d j := by
  have h := tw_avoid h1 h2
  rwa [tw_tw] at h

theorem tw_rep {n : Nat} {S : Nat → Nat} (h : IsP n S) {i j d : Nat} (hi : i < n) (hj : j < n) (hd : d < n) (h1 : ¬ SameO S d i) (h2 : ¬ SameO S d j) : rep (fun x => S (xch i j x)) d = rep S d := by
  have hT := h.tw hi hj
  refine Nat.le_antisymm (hT.rep_le hd ?_) (h.rep_le hd ?_)
  · obtain ⟨k, hk⟩ := h.rep_same hd
    exact ⟨k, by rw [tw_itr h1 h2]; exact hk⟩
  · obtain ⟨k, hk⟩ := hT.rep_same hd
    exact ⟨k, by rw [← tw_itr h1 h2 k]; exact hk⟩

/-- Leaders that are of neither orbit; of one of these. -/
noncomputable def ldA (n : Nat) (S : Nat → Nat) (i j : Nat) : List Nat := open Classical in (List.range n).filter fun x => decide (rep S x = x ∧ ¬ SameO S x i ∧ ¬ SameO S x j)
noncomputable def ldB (n : Nat) (S : Nat → Nat) (i j : Nat) : List Nat := open Classical in (List.range n).filter fun x => decide (rep S x = x ∧ ¬ (¬ SameO S x i ∧ ¬ SameO S x j))

theorem filter_parts {α : Type} (p q r : α → Bool) (h : ∀ x, p x = (q x || r x)) (hd : ∀ x, ¬ (q x = true ∧ r x = true)) : ∀ l : List α, (l.filter p).length = (l.filter q).length + (l.filter r).length
  | [] => rfl
  | x :: l => by
    have ih := filter_parts p q r h hd l
    have h1 := h x
    have h2 := hd x
    simp only [List.filter_cons]
    cases hq : q x <;> cases hr : r x <;> simp [hq, hr] at h1 h2 <;> simp [h1, ih] <;> omega

theorem ldr_parts (n : Nat) (S : Nat → Nat) (i j : Nat) : ldr S n = (ldA n S i j).length + (ldB n S i j).length := by
  unfold ldr ldA ldB
  refine filter_parts _ _ _ (fun x => ?_) (fun x => ?_) _
  · by_cases h1 : rep S x = x <;> by_cases h2 : (¬ SameO S x i ∧ ¬ SameO S x j) <;> simp [h1, h2]
  · simp only [decide_eq_true_eq]
    rintro ⟨⟨_, a⟩, _, b⟩
    exact b a

theorem ldA_tw {n : Nat} {S : Nat → Nat} (h : IsP n S) {i j : Nat} (hi : i < n) (hj : j < n) : ldA n (fun x => S (xch i j x)) i j = ldA n S i j := by
  unfold ldA
  refine List.filter_congr (fun x hx => ?_)
  have hx := List.mem_range.1 hx
  by_cases h2 : (¬ SameO S x i ∧ ¬ SameO S x j)
  · have h3 := tw_avoid h2.1 h2.2
    have h4 := tw_rep h hi hj hx h2.1 h2.2
    simp only [h2, h3, h4]
  · have h3 : ¬ (¬ SameO (fun y => S (xch i j y)) x i ∧ ¬ SameO (fun y => S (xch i j y)) x j) := fun hh => h2 (tw_avoid' hh.1 hh.2)
    simp [h2, h3]

theorem ldB_mem {n : Nat} {S : Nat → Nat} (h : IsP n S) {i j x : Nat} (hi : i < n) (hj : j < n) (hx : x ∈ ldB n S i j) : x = rep S i ∨ x = rep S j := by
  unfold ldB at hx
  simp only [List.mem_filter, List.mem_range, decide_eq_true_eq] at hx
  obtain ⟨hx, hr, ho⟩ := hx
  by_cases h1 : SameO S x i
  · left; rw [← hr]; exact (h.rep_iff hx hi).2 h1
  · by_cases h2 : SameO S x j
    · right; rw [← hr]; exact (h.rep_iff hx hj).2 h2
    · exact absurd ⟨h1, h2⟩ ho

theorem ldB_le {n : Nat} {S : Nat → Nat} (h : IsP n S) {i j : Nat} (hi : i < n) (hj : j < n) : (ldB n S i j).length ≤ 2 := by
  have := nodup_sub (ldB n S i j) [rep S i, rep S j] (List.Pairwise.filter _ List.nodup_range) (fun x hx => by
    rcases ldB_mem h hi hj hx with e | e <;> simp [e])
  simpa using this

theorem ldB_le1 {n : Nat} {S : Nat → Nat} (h : IsP n S) {i j : Nat} (hi : i < n) (hj : j < n) (hs : SameO S i j) : (ldB n S i j).length ≤ 1 := by
  have e := (h.rep_iff hi hj).2 hs
  have := nodup_sub (ldB n S i j) [rep S i] (List.Pairwise.filter _ List.nodup_range) (fun x hx => by
    rcases ldB_mem h hi hj hx with e' | e' <;> simp [e', e])
  simpa using this

theorem ldB_in {n : Nat} {S : Nat → Nat} (h : IsP n S) {i j : Nat} (hi : i < n) (hj : j < n) : rep S i ∈ ldB n S i j ∧ rep S j ∈ ldB n S i j := by
  unfold ldB
  simp only [List.mem_filter, List.mem_range, decide_eq_true_eq]
  exact ⟨⟨h.rep_lt hi, h.rep_rep hi, fun hh => hh.1 (h.sameO_symm hi (h.rep_same hi))⟩, ⟨h.rep_lt hj, h.rep_rep hj, fun hh => hh.2 (h.sameO_symm hj (h.rep_same hj))⟩⟩

theorem ldB_ge {n : Nat} {S : Nat → Nat} (h : IsP n S) {i j : Nat} (hi : i < n) (hj : j < n) : 1 ≤ (ldB n S i j).length :=
  List.length_pos_of_mem (ldB_in h hi hj).1

theorem ldB_ge2 {n : Nat} {S : Nat → Nat} (h : IsP n S) {i j : Nat} (hi : i < n) (hj : j < n) (hs : ¬ SameO S i j) : 2 ≤ (ldB n S i j).length := by
  have hne : rep S i ≠ rep S j := fun e => hs ((h.rep_iff hi hj).1 e)
  have := nodup_sub [rep S i, rep S j] (ldB n S i j) (by simp [hne]) (fun x hx => by
    have hb := ldB_in h hi hj
    simp only [List.mem_cons, List.not_mem_nil, or_false] at hx
    rcases hx with rfl | rfl
    · exact hb.1
    · exact hb.2)
  simpa using this

/-- One orbit more at most. -/
theorem ldr_tw_le {n : Nat} {S : Nat → Nat} (h : IsP n S) {i j : Nat} (hi : i < n) (hj : j < n) : ldr (fun x => S (xch i j x)) n ≤ ldr S n + 1 := by
  rw [ldr_parts n _ i j, ldr_parts n S i j, ldA_tw h hi hj]
  have h1 := ldB_le (h.tw hi hj) hi hj
  have h2 := ldB_ge h hi hj
  omega

theorem tw_join {n : Nat} {S : Nat → Nat} (h : IsP n S) {i j : Nat} (_hi : i < n) (hj : j < n) (hs : ¬ SameO S i j) : SameO (fun x => S (xch i j x)) i j := by
  obtain ⟨p0, _, p1, p2⟩ := h.per_spec hj
  have key : ∀ k, k + 1 ≤ per S j → itr (fun x => S (xch i j x)) (k + 1) i = itr S (k + 1) j := by
    intro k
    induction k with
    | zero =>
      intro _
      show S (xch i j i) = S j
      unfold xch
      rw [if_pos rfl]
    | succ k ih =>
      intro hk
      show S (xch i j (itr (fun x => S (xch i j x)) (k + 1) i)) = S (itr S (k + 1) j)
      rw [ih (by omega), xch_fix]
      · intro e
        exact hs (h.sameO_symm hj ⟨k + 1, e⟩)
      · exact p2 (k + 1) (by omega) (by omega)
  have := key (per S j - 1) (by omega)
  rw [Nat.sub_add_cancel p0, p1] at this
  exact ⟨_, this⟩

/-- Two orbits become one. -/
theorem ldr_tw_join {n : Nat} {S : Nat → Nat} (h : IsP n S) {i j : Nat} (hi : i < n) (hj : j < n) (hs : ¬ SameO S i j) : ldr (fun x => S (xch i j x)) n + 1 ≤ ldr S n := by
  rw [ldr_parts n _ i j, ldr_parts n S i j, ldA_tw h hi hj]
  have h1 := ldB_le1 (h.tw hi hj) hi hj (tw_join h hi hj hs)
  have h2 := ldB_ge2 h hi hj hs
  omega

/-- All places in one orbit. -/
theorem succ_isP {n : Nat} (hn : 0 < n) : IsP n (fun i => (i + 1) % n) :=
  ⟨fun _ _ => Nat.mod_lt _ hn, fun _ _ hd he hh => succ_mod_inj hd he hh⟩

theorem itr_succ_mod {n : Nat} : ∀ k, k < n → itr (fun i => (i + 1) % n) k 0 = k
  | 0, _ => rfl
  | k + 1, hk => by
    show (itr (fun i => (i + 1) % n) k 0 + 1) % n = k + 1
    rw [itr_succ_mod k (by omega), Nat.mod_eq_of_lt hk]

theorem ldr_succ_mod {n : Nat} (hn : 0 < n) : ldr (fun i => (i + 1) % n) n ≤ 1 := by
  have h := succ_isP hn
  have := nodup_sub ((List.range n).filter fun x => rep (fun i => (i + 1) % n) x == x) [0] (List.Pairwise.filter _ List.nodup_range) (fun x hx => by
    simp only [List.mem_filter, List.mem_range, beq_iff_eq] at hx
    obtain ⟨hx, hr⟩ := hx
    have h1 : rep (fun i => (i + 1) % n) x ≤ 0 := h.rep_le hx (h.sameO_symm hn ⟨x, itr_succ_mod x hx⟩)
    simp; omega)
  simpa [ldr] using this

/-- Chords on a round of n places: each place's other end (its own, where it has none). -/
structure Chd (n : Nat) (al : Nat → Nat) : Prop where
  lt : ∀ i, i < n → al i < n
  inv : ∀ i, i < n → al (al i) = i

/-- Those chords alone whose lower end has P. -/
def chP (al : Nat → Nat) (P : Nat → Bool) (i : Nat) : Nat := if P (min i (al i)) then al i else i

theorem chP_step {n : Nat} {al : Nat → Nat} (h : Chd n al) (P : Nat → Bool) {j : Nat} (hj : j < n) (hjl : j < al j) (hP : P j = false) {x : Nat} (hx : x < n) :
    chP al (fun y => P y || y == j) x = chP al P (xch j (al j) x) := by
  have hi := h.inv j hj
  unfold chP xch
  by_cases h1 : x = j
  · subst h1
    rw [if_pos rfl, hi, Nat.min_eq_left (Nat.le_of_lt hjl), Nat.min_eq_right (Nat.le_of_lt hjl), hP]
    simp
  · rw [if_neg h1]
    by_cases h2 : x = al j
    · subst h2
      rw [if_pos rfl, hi, Nat.min_eq_right (Nat.le_of_lt hjl), Nat.min_eq_left (Nat.le_of_lt hjl), hP]
      simp
    · rw [if_neg h2]
      have h3 : al x ≠ j := fun e => h2 (by rw [← e, h.inv x hx])
      have h4 : min x (al x) ≠ j := by omega
      simp [h4]

theorem chP_isP {n : Nat} {al : Nat → Nat} (h : Chd n al) (hn : 0 < n) (P : Nat → Bool) : IsP n (fun i => (chP al P i + 1) % n) := by
  have hlt : ∀ i, i < n → chP al P i < n := fun i hi => by
    unfold chP
    split
    · exact h.lt i hi
    · exact hi
  have hinv : ∀ i, i < n → chP al P (chP al P i) = i := fun i hi => by
    unfold chP
    by_cases hp : P (min i (al i)) = true
    · rw [if_pos hp, h.inv i hi, Nat.min_comm, if_pos hp]
    · rw [if_neg hp, if_neg hp]
  refine ⟨fun i _ => Nat.mod_lt _ hn, fun d e hd he hh => ?_⟩
  have := succ_mod_inj (hlt d hd) (hlt e he) hh
  rw [← hinv d hd, this, hinv e he]

/-- The lower ends below j, but two. -/
def lowC (al : Nat → Nat) (a b j : Nat) : Nat := ((List.range j).filter fun i => decide (i < al i) && !(i == a || i == b)).length
theorem lowC_succ (al : Nat → Nat) (a b j : Nat) : lowC al a b (j + 1) = lowC al a b j + if j < al j ∧ ¬ (j = a ∨ j = b) then 1 else 0 := by
  unfold lowC
  rw [List.range_succ, List.filter_append, List.length_append]
  by_cases h1 : j < al j <;> by_cases h2 : j = a <;> by_cases h3 : j = b <;> simp [h1, h2, h3]

theorem chd_more {n : Nat} {al : Nat → Nat} (h : Chd n al) (hn : 0 < n) (a b : Nat) : ∀ j, j ≤ n →
    ldr (fun i => (chP al (fun y => decide (y < j) || (y == a || y == b)) i + 1) % n) n ≤ ldr (fun i => (chP al (fun y => y == a || y == b) i + 1) % n) n + lowC al a b j := by
  intro j
  induction j with
  | zero =>
    intro _
    have e : (fun y : Nat => decide (y < 0) || (y == a || y == b)) = (fun y => y == a || y == b) := by funext y; simp
    rw [e]; exact Nat.le_add_right _ _
  | succ j ih =>
    intro hj
    have ih := ih (by omega)
    rw [lowC_succ]
    by_cases hab : j = a ∨ j = b
    · have e : (fun y : Nat => decide (y < j + 1) || (y == a || y == b)) = (fun y => decide (y < j) || (y == a || y == b)) := by
        funext y
        by_cases hy : y = j
        · subst hy
          rcases hab with e | e <;> simp [e]
        · have : decide (y < j + 1) = decide (y < j) := by congr 1; apply propext; omega
          rw [this]
      rw [e, if_neg (fun hh => hh.2 hab)]
      exact ih
    · by_cases hjl : j < al j
      · rw [if_pos ⟨hjl, hab⟩]
        have e : ∀ x, x < n → (chP al (fun y => decide (y < j + 1) || (y == a || y == b)) x + 1) % n = (chP al (fun y => decide (y < j) || (y == a || y == b)) (xch j (al j) x) + 1) % n := by
          intro x hx
          have hP : (decide (j < j) || (j == a || j == b)) = false := by simp; omega
          rw [← chP_step h (fun y => decide (y < j) || (y == a || y == b)) (by omega) hjl hP hx]
          have e2 : (fun y : Nat => decide (y < j + 1) || (y == a || y == b)) = (fun y => (decide (y < j) || (y == a || y == b)) || y == j) := by
            funext y
            rcases Nat.lt_trichotomy y j with h1 | h1 | h1
            · have h2 : y < j + 1 := by omega
              simp [h1, h2]
            · subst h1; simp
            · have h2 : ¬ y < j + 1 := by omega
              have h3 : ¬ y < j := by omega
              have h4 : ¬ y = j := by omega
              simp [h2, h3, h4]
          rw [e2]
        have h1 := chP_isP h hn (fun y => decide (y < j) || (y == a || y == b))
        have h2 := chP_isP h hn (fun y => decide (y < j + 1) || (y == a || y == b))
        have h3 := h1.tw (i := j) (j := al j) (by omega) (h.lt j (by omega))
        rw [ldr_congr h2 h3 e n (Nat.le_refl _)]
        have := ldr_tw_le h1 (i := j) (j := al j) (by omega) (h.lt j (by omega))
        omega
      · rw [if_neg (fun hh => hjl hh.1)]
        have e : ∀ x, x < n → (chP al (fun y => decide (y < j + 1) || (y == a || y == b)) x + 1) % n = (chP al (fun y => decide (y < j) || (y == a || y == b)) x + 1) % n := by
          intro x hx
          unfold chP
          by_cases h1 : min x (al x) = j
          · have h2 : al x = x := by
              have hxx := h.inv x hx
              rcases Nat.lt_trichotomy x (al x) with h2 | h2 | h2
              · exfalso; apply hjl; rw [← h1, Nat.min_eq_left (Nat.le_of_lt h2)]; exact h2
              · exact h2.symm
              · exfalso; apply hjl; rw [← h1, Nat.min_eq_right (Nat.le_of_lt h2), hxx]; exact h2
            rw [h2]; simp
          · have : decide (min x (al x) < j + 1) = decide (min x (al x) < j) := by congr 1; apply propext; omega
            simp only [this]
        rw [ldr_congr (chP_isP h hn _) (chP_isP h hn _) e n (Nat.le_refl _)]
        exact ih

theorem lowC_all {n : Nat} {al : Nat → Nat} {a b : Nat} (ha : a < n) (hb : b < n) (hab : a ≠ b) (hal : a < al a) (hbl : b < al b) : lowC al a b n + 2 = ((List.range n).filter fun i => decide (i < al i)).length := by
  have h1 : ((List.range n).filter fun i => decide (i < al i)).length = lowC al a b n + ((List.range n).filter fun i => decide (i < al i) && (i == a || i == b)).length := by
    unfold lowC
    refine filter_parts _ _ _ (fun x => ?_) (fun x => ?_) _
    · cases decide (x < al x) <;> cases (x == a || x == b) <;> rfl
    · cases decide (x < al x) <;> cases (x == a || x == b) <;> simp
  have h2 : 2 ≤ ((List.range n).filter fun i => decide (i < al i) && (i == a || i == b)).length := by
    have := nodup_sub [a, b] ((List.range n).filter fun i => decide (i < al i) && (i == a || i == b)) (by simp [hab]) (fun x hx => by
      simp only [List.mem_cons, List.not_mem_nil, or_false] at hx
      rcases hx with rfl | rfl
      · simp [ha, hal]
      · simp [hb, hbl])
    simpa using this
  have h3 : ((List.range n).filter fun i => decide (i < al i) && (i == a || i == b)).length ≤ 2 := by
    have := nodup_sub ((List.range n).filter fun i => decide (i < al i) && (i == a || i == b)) [a, b] (List.Pairwise.filter _ List.nodup_range) (fun x hx => by
      simp only [List.mem_filter, Bool.and_eq_true, Bool.or_eq_true, beq_iff_eq] at hx
      rcases hx.2.2 with e | e <;> simp [e])
    simpa using this
  omega

/-- Where as many orbits are as chords no two chords cross. -/
theorem no_cross {n : Nat} {al : Nat → Nat} (h : Chd n al) (hF : ((List.range n).filter fun i => decide (i < al i)).length ≤ ldr (fun i => (al i + 1) % n) n)
    {a b : Nat} (hb : b < n) (hab : a < b) (h1 : b < al a) (h2 : al a < al b) : False := by
  have hn : 0 < n := by omega
  have ha : a < n := by omega
  have hal : al a < n := h.lt a ha
  have hbl : al b < n := h.lt b hb
  have hm := chd_more h hn a b n (Nat.le_refl _)
  have e1 : ∀ x, x < n → (chP al (fun y => decide (y < n) || (y == a || y == b)) x + 1) % n = (al x + 1) % n := by
    intro x hx
    unfold chP
    have : min x (al x) < n := by omega
    simp [this]
  have hF0 : IsP n (fun i => (al i + 1) % n) := (chP_isP h hn (fun y => decide (y < n) || (y == a || y == b))).congr (fun d hd => (e1 d hd).symm)
  rw [ldr_congr (chP_isP h hn _) hF0 e1 n (Nat.le_refl _)] at hm
  have hc := succ_isP hn
  have hT1 := hc.tw (i := a) (j := al a) ha hal
  have hT2 := hT1.tw (i := b) (j := al b) hb hbl
  have e2 : ∀ x, x < n → (chP al (fun y => y == a || y == b) x + 1) % n = (fun d => (fun i => (i + 1) % n) (xch a (al a) d)) (xch b (al b) x) := by
    intro x hx
    show (chP al (fun y => y == a || y == b) x + 1) % n = (xch a (al a) (xch b (al b) x) + 1) % n
    have ia := h.inv a ha
    have ib := h.inv b hb
    have s1 := chP_step h (fun y => y == a) hb (by omega) (by simp; omega) hx
    rw [s1]
    have s2 := chP_step h (fun _ => false) ha (by omega) rfl (x := xch b (al b) x) (xch_lt hb hbl hx)
    have e3 : (fun y : Nat => false || y == a) = (fun y => y == a) := by funext y; simp
    rw [e3] at s2
    rw [s2]
    unfold chP
    simp
  rw [ldr_congr (chP_isP h hn _) hT2 e2 n (Nat.le_refl _)] at hm
  have c1 := ldr_succ_mod hn
  have c2 := ldr_tw_le hc (i := a) (j := al a) ha hal
  have hsep : ¬ SameO (fun x => (fun i => (i + 1) % n) (xch a (al a) x)) b (al b) := by
    rintro ⟨k, hk⟩
    have inv : ∀ k, a < itr (fun x => (fun i => (i + 1) % n) (xch a (al a) x)) k b ∧ itr (fun x => (fun i => (i + 1) % n) (xch a (al a) x)) k b ≤ al a := by
      intro k
      induction k with
      | zero => exact ⟨hab, Nat.le_of_lt h1⟩
      | succ k ih =>
        obtain ⟨i1, i2⟩ := ih
        generalize hx : itr (fun x => (fun i => (i + 1) % n) (xch a (al a) x)) k b = x at i1 i2
        have e4 : itr (fun x => (fun i => (i + 1) % n) (xch a (al a) x)) (k + 1) b = (xch a (al a) x + 1) % n := by rw [← hx]; rfl
        rw [e4]
        unfold xch
        rw [if_neg (by omega)]
        by_cases hxa : x = al a
        · rw [if_pos hxa, Nat.mod_eq_of_lt (by omega)]
          omega
        · rw [if_neg hxa, Nat.mod_eq_of_lt (by omega)]
          omega
    have := (inv k).2
    rw [hk] at this
    omega
  have c3 := ldr_tw_join hT1 hb hbl hsep
  have c4 := lowC_all ha hb (by omega) (by omega : a < al a) (by omega : b < al b)
  omega

end Go.Proofs.YtblkkcpeodoclaaGreatDoor

/- Plain laws of the walk of a planar map: each letter's mate in the word is the place of its dart's mate. No program is named here. -/
namespace Go.Proofs.YtblkkcpeodoclaaGreatDoor

/-- A walk that is told whole: its darts D, its word ks. -/
structure WkT (n : Nat) (S : Nat → Nat) (root T : Nat) (D : Nat → Nat) (ks : List Nat) : Prop where
  len : ks.length = T
  pos : 0 < T
  zero : D 0 = root
  lt : ∀ i, i < T → D i < n
  inj : ∀ i j, i < T → j < T → D i = D j → i = j
  cov : ∀ x, x < n → Conn n S root x → ∃ i, i < T ∧ D i = x
  next : ∀ i, i < T → D ((i + 1) % T) = S (if ks.getD i 0 < 2 then mt (D i) else D i)
  right : WRight ks
  close : ∀ i, ks[i]? = some 1 → ∃ j, PairW ks 0 j i ∧ D j = mt (D i)
  rgt : ∀ i, ks[i]? = some 3 → ∃ j, j < i ∧ ks[j]? = some 2 ∧ D j = mt (D i)
  fst : ∀ i k, ks[i]? = some k → k % 2 = 0 → ∀ j, j < i → D j ≠ mt (D i)
  met : ∀ i, i < T → SameO S (D i) root ∨ ∃ j, ks[j]? = some 0 ∧ SameO S (D i) (mt (D j))
  new : ∀ i j, ks[i]? = some 0 → j < i → ¬ SameO S (D j) (mt (D i))

theorem wlk_prefix (S vert : Nat → Nat) (root : Nat) : ∀ m j, ∃ l, (wlk S vert root (j + m)).2 = (wlk S vert root j).2 ++ l
  | 0, j => ⟨[], by simp⟩
  | m + 1, j => by
    obtain ⟨l, hl⟩ := wlk_prefix S vert root m j
    refine ⟨l ++ [((wlk S vert root (j + m)).1, kindB vert root (wlk S vert root (j + m)).2 (wlk S vert root (j + m)).1)], ?_⟩
    rw [← List.append_assoc, ← hl]
    rfl

/-- What is told at a place: the dart that is looked at then, and its kind. -/
theorem wlk_at (S vert : Nat → Nat) (root : Nat) {i T : Nat} (hi : i < T) : (wlk S vert root T).2[i]? = some ((wlk S vert root i).1, kindB vert root (wlk S vert root i).2 (wlk S vert root i).1) := by
  obtain ⟨l, hl⟩ := wlk_prefix S vert root (T - (i + 1)) (i + 1)
  rw [show i + 1 + (T - (i + 1)) = T by omega] at hl
  rw [hl, List.getElem?_append_left (by rw [wlk_length]; omega)]
  show ((wlk S vert root i).2 ++ [_])[i]? = _
  rw [List.getElem?_append_right (by rw [wlk_length]; omega), wlk_length]
  simp

theorem wlk_old (S vert : Nat → Nat) (root : Nat) {i T : Nat} (hi : i ≤ T) : (wlk S vert root T).2.take i = (wlk S vert root i).2 := by
  obtain ⟨l, hl⟩ := wlk_prefix S vert root (T - i) i
  rw [show i + (T - i) = T by omega] at hl
  rw [hl, List.take_append_of_le_length (by rw [wlk_length]; omega), List.take_of_length_le (by rw [wlk_length]; omega)]

theorem wlk_mem (S vert : Nat → Nat) (root : Nat) {i : Nat} {x k : Nat} (h : (x, k) ∈ (wlk S vert root i).2) : ∃ j, j < i ∧ (wlk S vert root j).1 = x ∧ kindB vert root (wlk S vert root j).2 (wlk S vert root j).1 = k := by
  obtain ⟨j, hj, hjx⟩ := List.mem_iff_getElem.1 h
  rw [wlk_length] at hj
  have := wlk_at S vert root hj
  rw [List.getElem?_eq_getElem (by rw [wlk_length]; exact hj), hjx] at this
  simp only [Option.some.injEq, Prod.mk.injEq] at this
  exact ⟨j, hj, this.1.symm, this.2.symm⟩

theorem DInv.closeLast {n : Nat} {S vert : Nat → Nat} (h : IsP n S) {root r : Nat} {f : Fr} {rest : List Fr} {d : Nat} {out : List (Nat × Nat)} (I : DInv n S vert root r (f :: rest) d out) (hd : ¬ vis out d) (hm : (mt d, 0) ∈ out) :
    f.k + 1 = per S f.a ∧ out[f.o]? = some (mt d, 0) := by
  have hc := I.chain
  have hcur : d = itr S f.k f.a := I.cur
  have hlast : f.k + 1 = per S f.a := by
    rcases I.half (mt d) 0 hm (by rw [mt_mt]; exact hd) with ⟨_, g, hg, hgl⟩ | h2
    · rw [mt_mt] at hgl
      rcases List.mem_cons.1 hg with rfl | hg
      · have hfa := hc.1.1
        have hp := (h.per_spec hfa).1
        have := h.itr_diff hfa (i := per S g.a - 1) (j := g.k) (by omega) hc.1.2.1 (by rw [hgl, hcur])
        omega
      · exfalso
        have h1 := (List.pairwise_cons.1 I.apart).1 g hg
        have hga := (hc.2.lt g hg).1
        exact h1 (SameO.trans (show SameO S f.a d from ⟨f.k, hcur.symm⟩) (h.sameO_symm hga ⟨_, hgl⟩))
    · omega
  refine ⟨hlast, ?_⟩
  have h1 := hc.1.2.2.2.1
  have h2 := hc.1.2.2.2.2
  have h3 : per S f.a - 1 = f.k := by omega
  rw [h3, ← hcur] at h1
  rw [h2, h1, mt_mt]

/-- The walk, told whole. -/
theorem wlk_told {n : Nat} {S vert : Nat → Nat} (h : IsP n S) (he : n % 2 = 0) (hv : ∀ x y, x < n → y < n → (vert x = vert y ↔ SameO S x y)) {root : Nat} (hr : root < n) :
    ∃ T, WkEnd n S vert root T ∧ (wlk S vert root T).1 = root ∧ WkT n S root T (fun i => (wlk S vert root i).1) (kso (wlk S vert root T).2) := by
  have hvt : ∀ x, x < n → vert (S x) = vert x := fun x hx => ((hv x (S x) hx (h.lt x hx)).2 (SameO.step S x)).symm
  obtain ⟨T, r, I, hd, hall⟩ := dfs_end h he hv hr n 0 0 [] (by omega) (dinv_zero hv hr) (fun i hi => by omega)
  have key : ∀ j, j ≤ T → ∃ r st pend, DInv n S vert root r st (wlk S vert root j).1 (wlk S vert root j).2 ∧ WInv (wlk S vert root j).2 st pend := by
    intro j
    induction j with
    | zero => intro _; exact ⟨0, [], [], dinv_zero hv hr, winv_zero⟩
    | succ j ih =>
      intro hj
      obtain ⟨r1, st1, pend, I1, W1⟩ := ih (by omega)
      obtain ⟨r2, st2, I2, hn2⟩ := hall j (by omega)
      obtain ⟨f1, f2, f3⟩ := I2.fresh h hr hn2
      have hn1 : ¬ DDone S root r1 st1 := fun hd1 => f3 (I1.all h hr hd1 hvt f2)
      obtain ⟨r3, st3, hs, I3⟩ := I1.step h he hv hr hn1
      obtain ⟨pend', W3⟩ := W1.step h hr I1 f3 hs
      exact ⟨r3, st3, pend', I3, W3⟩
  have hcur : ∀ j, j < T → (wlk S vert root j).1 < n ∧ ¬ vis (wlk S vert root j).2 (wlk S vert root j).1 := fun j hj => by
    obtain ⟨r2, st2, I2, hn2⟩ := hall j hj
    obtain ⟨f1, f2, f3⟩ := I2.fresh h hr hn2
    exact ⟨f1, f3⟩
  have hT0 : 0 < T := by
    rcases Nat.eq_zero_or_pos T with h0 | h0
    · exfalso
      subst h0
      have := I.all h hr hd hvt (Conn.refl n S root)
      exact vis_nil _ this
    · exact h0
  obtain ⟨T', hE⟩ := wlk_end h he hv hr
  have hend : (wlk S vert root T).1 = root := by
    have h1 := I.cur
    rw [h1]
    show itr S r root = root
    rw [hd.2]
    exact (h.per_spec hr).2.2.1
  have hTT : T' = T := by
    have h2 : (wlk S vert root T').1 = (wlk S vert root T').1 := rfl
    rcases Nat.lt_trichotomy T' T with hlt | heq | hlt
    · exfalso
      obtain ⟨h3, h4⟩ := hcur T' hlt
      have h5 := (hall T' hlt)
      obtain ⟨r2, st2, I2, hn2⟩ := h5
      obtain ⟨f1, f2, f3⟩ := I2.fresh h hr hn2
      exact f3 ((hE.cov _ f1).1 f2)
    · exact heq
    · exfalso
      obtain ⟨h3, h4⟩ := hE.cur T hlt
      exact h4 (I.all h hr hd hvt (by rw [hend]; exact Conn.refl n S root))
  subst hTT
  have hks : (kso (wlk S vert root T').2).length = T' := by rw [kso_length, wlk_length]
  have hkat : ∀ i, i < T' → (kso (wlk S vert root T').2)[i]? = some (kindB vert root (wlk S vert root i).2 (wlk S vert root i).1) := fun i hi => by
    unfold kso
    rw [List.getElem?_map, wlk_at S vert root hi]; rfl
  have hkt : ∀ i, i ≤ T' → (kso (wlk S vert root T').2).take i = kso (wlk S vert root i).2 := fun i hi => by
    unfold kso
    rw [← List.map_take, wlk_old S vert root hi]
  have hinj : ∀ i j, i < j → j < T' → (wlk S vert root i).1 ≠ (wlk S vert root j).1 := fun i j hij hj e => by
    have := wlk_at S vert root (T := j) hij
    exact (hcur j hj).2 ⟨_, e ▸ List.mem_of_getElem? this⟩
  refine ⟨T', hE, hend, ?_⟩
  refine { len := hks, pos := hT0, zero := rfl, lt := fun i hi => (hcur i hi).1, inj := ?_, cov := ?_, next := ?_, right := hE.right, close := ?_, rgt := ?_, fst := ?_, met := ?_, new := ?_ }
  · intro i j hi hj e
    rcases Nat.lt_trichotomy i j with hlt | heq | hlt
    · exact absurd e (hinj i j hlt hj)
    · exact heq
    · exact absurd e.symm (hinj j i hlt hi)
  · intro x hx hc
    obtain ⟨k, hk⟩ := (hE.cov x hx).1 hc
    obtain ⟨j, hj, h1, _⟩ := wlk_mem S vert root hk
    exact ⟨j, hj, h1⟩
  · intro i hi
    have h1 : (wlk S vert root (i + 1)).1 = S (if kindB vert root (wlk S vert root i).2 (wlk S vert root i).1 < 2 then mt (wlk S vert root i).1 else (wlk S vert root i).1) := rfl
    rw [getD_of (hkat i hi), ← h1]
    rcases Nat.lt_or_ge (i + 1) T' with h2 | h2
    · rw [Nat.mod_eq_of_lt h2]
    · obtain rfl : i + 1 = T' := by omega
      rw [Nat.mod_self, hend]; rfl
  · intro i hi
    have hil : i < T' := by have := lt_of_get hi; omega
    have hki := hkat i hil
    rw [hki] at hi
    have hk1 := Option.some.inj hi
    obtain ⟨r1, st1, pend, I1, W1⟩ := key i (by omega)
    obtain ⟨r2, st2, I2, hn2⟩ := hall i hil
    obtain ⟨f1, f2, f3⟩ := I2.fresh h hr hn2
    have hn1 : ¬ DDone S root r1 st1 := fun hd1 => f3 (I1.all h hr hd1 hvt f2)
    obtain ⟨r3, st3, hs, I3⟩ := I1.step h he hv hr hn1
    rw [hk1] at hs
    cases hs with
    | close f rest hst hm =>
      subst hst
      obtain ⟨_, hfo⟩ := I1.closeLast h f3 hm
      have hfl : f.o < i := by have := lt_of_get hfo; rwa [wlk_length] at this
      have hO := W1.own.1
      have hdep := W1.dep
      rw [wlk_length] at hdep
      have hDD : ∀ p, p ≤ i → DD (kso (wlk S vert root T').2) p = DD (kso (wlk S vert root i).2) p := fun p hp => by
        unfold DD
        rw [← hkt i (by omega), List.take_take, Nat.min_eq_left hp]
      have hat := wlk_at S vert root (T := i) hfl
      rw [hfo] at hat
      simp only [Option.some.injEq, Prod.mk.injEq] at hat
      refine ⟨f.o, ⟨hfl, by omega, ?_, by rw [hki, hk1], ?_, ?_⟩, hat.1.symm⟩
      · rw [hkat f.o (by omega), ← hat.2]
      · rw [ex_DD (show i + 1 ≤ _ by omega), ex_DD (show f.o ≤ _ by omega), DD_succ (by rw [hki, hk1]), hDD i (Nat.le_refl _), hDD f.o (by omega), hO.2.1, hdep]
        simp [dd]
        omega
      · intro p hp1 hp2
        rw [ex_DD (show p ≤ _ by omega), ex_DD (show f.o ≤ _ by omega), hDD p hp2, hDD f.o (by omega), hO.2.1]
        exact hO.2.2 p hp1 (by rw [kso_length, wlk_length]; exact hp2)
  · intro i hi
    have hil : i < T' := by have := lt_of_get hi; omega
    have hki := hkat i hil
    rw [hki] at hi
    have hk3 := Option.some.inj hi
    unfold kindB at hk3
    rcases find_half (hcur i hil).2 with ⟨k, hf, hm⟩ | ⟨hf, _⟩
    · rw [hf] at hk3
      simp only at hk3
      obtain ⟨j, hj, h1, h2⟩ := wlk_mem S vert root hm
      refine ⟨j, hj, ?_, h1⟩
      rw [hkat j (by omega), h2]; congr 1; omega
    · rw [hf] at hk3
      simp only at hk3
      split at hk3 <;> omega
  · intro i k hi hk j hj e
    have hil : i < T' := by have := lt_of_get hi; omega
    have hki := hkat i hil
    rw [hki] at hi
    have hk3 := Option.some.inj hi
    unfold kindB at hk3
    rcases find_half (hcur i hil).2 with ⟨k', hf, hm⟩ | ⟨hf, hm⟩
    · rw [hf] at hk3
      simp only at hk3
      obtain ⟨r1, st1, pend, I1, W1⟩ := key i (by omega)
      rcases I1.half _ _ hm (by rw [mt_mt]; exact (hcur i hil).2) with ⟨h0, _⟩ | h2
      · omega
      · omega
    · have := wlk_at S vert root (T := i) hj
      exact hm ⟨_, e ▸ List.mem_of_getElem? this⟩
  · intro i hi
    obtain ⟨r1, st1, pend, I1, W1⟩ := key T' (Nat.le_refl _)
    have hvi : vis (wlk S vert root T').2 (wlk S vert root i).1 := ⟨_, List.mem_of_getElem? (wlk_at S vert root hi)⟩
    have hmt : metB vert root (wlk S vert root T').2 (vert (wlk S vert root i).1) = true := by
      cases hb : metB vert root (wlk S vert root T').2 (vert (wlk S vert root i).1)
      · exact absurd hvi (I1.unmet _ (hcur i hi).1 hb)
      · rfl
    unfold metB at hmt
    rw [Bool.or_eq_true, beq_iff_eq, List.any_eq_true] at hmt
    rcases hmt with e | ⟨⟨x, k⟩, hx, hxk⟩
    · exact .inl ((hv _ _ (hcur i hi).1 hr).1 e)
    · rw [Bool.and_eq_true, beq_iff_eq, beq_iff_eq] at hxk
      obtain ⟨j, hj, h1, h2⟩ := wlk_mem S vert root hx
      have h3 : k = 0 := hxk.1
      refine .inr ⟨j, by rw [hkat j hj, h2, h3], ?_⟩
      have h4 : vert (mt x) = vert (wlk S vert root i).1 := hxk.2
      show SameO S (wlk S vert root i).1 (mt (wlk S vert root j).1)
      rw [h1]
      exact (hv _ _ (hcur i hi).1 (mt_lt he (by rw [← h1]; exact (hcur j hj).1))).1 h4.symm
  · intro i j hi hj e
    have hil : i < T' := by have := lt_of_get hi; omega
    have hki := hkat i hil
    rw [hki] at hi
    have hk0 := Option.some.inj hi
    unfold kindB at hk0
    rcases find_half (hcur i hil).2 with ⟨k', hf, hm⟩ | ⟨hf, hm⟩
    · rw [hf] at hk0; simp only at hk0; omega
    · rw [hf] at hk0
      simp only at hk0
      obtain ⟨r1, st1, pend, I1, W1⟩ := key i (by omega)
      have hnm : metB vert root (wlk S vert root i).2 (vert (mt (wlk S vert root i).1)) = false := by
        cases hb : metB vert root (wlk S vert root i).2 (vert (mt (wlk S vert root i).1))
        · rfl
        · rw [hb] at hk0; simp at hk0
      have hvi : vis (wlk S vert root i).2 (wlk S vert root j).1 := ⟨_, List.mem_of_getElem? (wlk_at S vert root hj)⟩
      have hjl := (hcur j (by omega)).1
      rw [← (hv _ _ hjl (mt_lt he (hcur i hil).1)).2 e] at hnm
      exact I1.unmet _ hjl hnm hvi

section
variable {n : Nat} {S : Nat → Nat} {root T : Nat} {D : Nat → Nat} {ks : List Nat} (k : WkT n S root T D ks)
include k

theorem WkT.wd : Wd ks := ⟨k.right.k4, k.right.bal⟩

theorem WkT.mate01 {i : Nat} (hi : i < T) (h2 : ks.getD i 0 < 2) : D (mp ks i) = mt (D i) := by
  have hw := k.wd
  have hil : i < ks.length := by rw [k.len]; exact hi
  have key : ∀ i, ks[i]? = some 1 → D (mp ks i) = mt (D i) := by
    intro i h1
    obtain ⟨j, hp, hj⟩ := k.close i h1
    have h3 := hw.mp_pair hp
    have h4 := hw.mp_mp (i := j) (by have := hp.lt; have := hp.le; omega)
    rw [h3] at h4
    rw [h4]
    exact hj
  obtain ⟨s, hs, ⟨h1, h3⟩ | ⟨h1, h3⟩⟩ := hw.cases hil
  · rw [getD_of h1] at h2
    obtain rfl : s = 0 := by omega
    have := key _ h3.closes
    rw [hw.mp_mp hil] at this
    rw [this, mt_mt]
  · rw [getD_of h1] at h2
    obtain rfl : s = 0 := by omega
    exact key i h1

open Classical in
/-- A vertex more for each opening letter of the tree, at most. -/
theorem WkT.verts (h : IsP n S) (hr : root < n) (he : n % 2 = 0) : ((List.range n).filter fun x => rep S x == x && decide (Conn n S root x)).length ≤ cntK ks 0 + 1 := by
  have hlen : ∀ m, m ≤ ks.length → (((List.range m).filter fun q => ks[q]? == some 0).map fun q => rep S (mt (D q))).length = cntK (ks.take m) 0 := by
    intro m
    induction m with
    | zero => intro _; simp [cntK]
    | succ m ih =>
      intro hm
      have ih := ih (by omega)
      rw [List.length_map] at ih ⊢
      have hg := List.getElem?_eq_getElem (l := ks) (i := m) (by omega)
      rw [cntK_get hg, ← ih, List.range_succ, List.filter_append, List.length_append]
      by_cases h0 : ks[m] = 0 <;> simp [hg, h0]
  have h1 := nodup_sub ((List.range n).filter fun x => rep S x == x && decide (Conn n S root x)) (rep S root :: (((List.range ks.length).filter fun q => ks[q]? == some 0).map fun q => rep S (mt (D q)))) (List.Pairwise.filter _ List.nodup_range) (fun x hx => by
    simp only [List.mem_filter, List.mem_range, Bool.and_eq_true, beq_iff_eq, decide_eq_true_eq] at hx
    obtain ⟨hx, hxr, hxc⟩ := hx
    obtain ⟨i, hi, rfl⟩ := k.cov x hx hxc
    rcases k.met i hi with h2 | ⟨j, h2, h3⟩
    · rw [← hxr, (h.rep_iff hx hr).2 h2]; simp
    · have hj := lt_of_get h2
      rw [← hxr, (h.rep_iff hx (mt_lt he (k.lt j (by rw [← k.len]; exact hj)))).2 h3]
      exact List.mem_cons_of_mem _ (List.mem_map.2 ⟨j, List.mem_filter.2 ⟨List.mem_range.2 hj, by rw [h2]; rfl⟩, rfl⟩))
  rw [List.length_cons, hlen ks.length (Nat.le_refl _), List.take_of_length_le (Nat.le_refl _)] at h1
  exact h1

/-- Where a dart is told. -/
noncomputable def posD (T : Nat) (D : Nat → Nat) (x : Nat) : Nat := open Classical in if h : ∃ i, i < T ∧ D i = x then h.choose else 0
omit k in
theorem posD_spec {x : Nat} (hx : ∃ i, i < T ∧ D i = x) : posD T D x < T ∧ D (posD T D x) = x := by
  unfold posD
  rw [dif_pos hx]
  exact hx.choose_spec

/-- The other end of a place's chord: of an edge that is not of the tree. -/
noncomputable def chA (T : Nat) (D : Nat → Nat) (ks : List Nat) (i : Nat) : Nat := if ks.getD i 0 < 2 then i else posD T D (mt (D i))

/-- The walk stays in its part. -/
theorem WkT.conn (he : n % 2 = 0) : ∀ i, i < T → Conn n S root (D i) := by
  intro i
  induction i with
  | zero => intro _; rw [k.zero]; exact Conn.refl _ _ _
  | succ i ih =>
    intro hi
    have ih := ih (by omega)
    have h1 := k.next i (by omega)
    rw [Nat.mod_eq_of_lt hi] at h1
    rw [h1]
    have h2 := k.lt i (by omega)
    split
    · exact (ih.trans (Conn.mate h2)).trans (Conn.turn (mt_lt he h2))
    · exact ih.trans (Conn.turn h2)

theorem WkT.chA_spec (he : n % 2 = 0) {i : Nat} (hi : i < T) : (ks[i]? = some 2 → i < chA T D ks i ∧ chA T D ks i < T ∧ D (chA T D ks i) = mt (D i) ∧ ks[chA T D ks i]? = some 3) ∧
    (ks[i]? = some 3 → chA T D ks i < i ∧ D (chA T D ks i) = mt (D i) ∧ ks[chA T D ks i]? = some 2) := by
  have hil : i < ks.length := by rw [k.len]; exact hi
  have hex : ∃ j, j < T ∧ D j = mt (D i) := k.cov _ (mt_lt he (k.lt i hi)) ((k.conn he i hi).trans (Conn.mate (k.lt i hi)))
  obtain ⟨p1, p2⟩ := posD_spec hex
  refine ⟨fun h2 => ?_, fun h3 => ?_⟩
  · unfold chA
    rw [getD_of h2, if_neg (by omega)]
    generalize posD T D (mt (D i)) = j at p1 p2
    have hj := List.getElem?_eq_getElem (l := ks) (i := j) (by rw [k.len]; exact p1)
    have hij : i < j := by
      rcases Nat.lt_trichotomy i j with h1 | h1 | h1
      · exact h1
      · subst h1; exact absurd p2.symm (mt_ne _)
      · exact absurd p2 (k.fst i 2 h2 (by omega) j h1)
    refine ⟨hij, p1, p2, ?_⟩
    have h4 := k.right.k4 _ (List.mem_of_getElem? hj)
    have hc4 : ks[j]'(by rw [k.len]; exact p1) = 0 ∨ ks[j]'(by rw [k.len]; exact p1) = 1 ∨ ks[j]'(by rw [k.len]; exact p1) = 2 ∨ ks[j]'(by rw [k.len]; exact p1) = 3 := by omega
    rcases hc4 with e | e | e | e
    · rw [e] at hj
      exact absurd (by rw [p2, mt_mt]) (k.fst j 0 hj (by omega) i hij)
    · rw [e] at hj
      obtain ⟨q, hq, hqj⟩ := k.close j hj
      rw [p2, mt_mt] at hqj
      have := k.inj q i (by have := hq.lt; have := hq.le; rw [← k.len]; omega) hi hqj
      subst this
      have := hq.opens
      rw [h2] at this
      simp at this
    · rw [e] at hj
      exact absurd (by rw [p2, mt_mt]) (k.fst j 2 hj (by omega) i hij)
    · rw [hj, e]
  · unfold chA
    rw [getD_of h3, if_neg (by omega)]
    obtain ⟨j, hj, h4, h5⟩ := k.rgt i h3
    have := k.inj _ j p1 (by omega) (by rw [p2, h5])
    rw [this]
    exact ⟨hj, h5, h4⟩

theorem WkT.chd (he : n % 2 = 0) : Chd T (chA T D ks) := by
  have key : ∀ i, i < T → (ks.getD i 0 < 2 ∧ chA T D ks i = i) ∨ ks[i]? = some 2 ∨ ks[i]? = some 3 := by
    intro i hi
    have hg := List.getElem?_eq_getElem (l := ks) (i := i) (by rw [k.len]; exact hi)
    have h4 := k.right.k4 _ (List.mem_of_getElem? hg)
    by_cases h2 : ks.getD i 0 < 2
    · exact .inl ⟨h2, by unfold chA; rw [if_pos h2]⟩
    · rw [getD_of hg] at h2
      right
      rw [hg]
      simp only [Option.some.injEq]
      omega
  refine ⟨fun i hi => ?_, fun i hi => ?_⟩
  · rcases key i hi with ⟨_, e⟩ | h2 | h3
    · omega
    · exact ((k.chA_spec he hi).1 h2).2.1
    · have := ((k.chA_spec he hi).2 h3).1
      omega
  · rcases key i hi with ⟨_, e⟩ | h2 | h3
    · rw [e, e]
    · obtain ⟨h4, h5, h6, h7⟩ := (k.chA_spec he hi).1 h2
      obtain ⟨g4, g5, g6⟩ := (k.chA_spec he h5).2 h7
      exact k.inj _ _ (by omega) hi (by rw [g5, h6, mt_mt])
    · obtain ⟨h4, h5, h6⟩ := (k.chA_spec he hi).2 h3
      obtain ⟨g4, g5, g6, g7⟩ := (k.chA_spec he (show chA T D ks i < T by omega)).1 h6
      exact k.inj _ _ g5 hi (by rw [g6, h5, mt_mt])

theorem WkT.face (he : n % 2 = 0) {i : Nat} (hi : i < T) : D ((chA T D ks i + 1) % T) = S (mt (D i)) := by
  by_cases h2 : ks.getD i 0 < 2
  · have h1 : chA T D ks i = i := by unfold chA; rw [if_pos h2]
    rw [h1, k.next i hi, if_pos h2]
  · have hg := List.getElem?_eq_getElem (l := ks) (i := i) (by rw [k.len]; exact hi)
    have h4 := k.right.k4 _ (List.mem_of_getElem? hg)
    rw [getD_of hg] at h2
    have h23 : ks[i]'(by rw [k.len]; exact hi) = 2 ∨ ks[i]'(by rw [k.len]; exact hi) = 3 := by omega
    rcases h23 with e | e
    · rw [e] at hg
      obtain ⟨h4, h5, h6, h7⟩ := (k.chA_spec he hi).1 hg
      rw [k.next _ h5, getD_of h7, if_neg (by omega), h6]
    · rw [e] at hg
      obtain ⟨h4, h5, h6⟩ := (k.chA_spec he hi).2 hg
      rw [k.next _ (by omega), getD_of h6, if_neg (by omega), h5]

open Classical in
/-- As many orbits along faces by places as by darts, at least. -/
theorem WkT.faces (h : IsP n S) (he : n % 2 = 0) : ((List.range n).filter fun x => rep (fun d => S (mt d)) x == x && decide (Conn n S root x)).length ≤ ldr (fun i => (chA T D ks i + 1) % T) T := by
  have hcd := k.chd he
  have hP : IsP n (fun d => S (mt d)) := ⟨fun d hd => h.lt _ (mt_lt he hd), fun d e hd hen hh => by
    have := h.inj _ _ (mt_lt he hd) (mt_lt he hen) hh
    rw [← mt_mt d, this, mt_mt]⟩
  have hQ : IsP T (fun i => (chA T D ks i + 1) % T) := (chP_isP hcd k.pos (fun _ => true)).congr (fun d _ => by simp [chP])
  have hitr : ∀ m i, i < T → D (itr (fun i => (chA T D ks i + 1) % T) m i) = itr (fun d => S (mt d)) m (D i) := by
    intro m i hi
    induction m with
    | zero => rfl
    | succ m ih =>
      show D ((chA T D ks (itr (fun i => (chA T D ks i + 1) % T) m i) + 1) % T) = S (mt (itr (fun d => S (mt d)) m (D i)))
      rw [k.face he (hQ.itr_lt hi m), ih]
  have h1 := nodup_sub (((List.range n).filter fun x => rep (fun d => S (mt d)) x == x && decide (Conn n S root x)).map fun x => rep (fun i => (chA T D ks i + 1) % T) (posD T D x)) ((List.range T).filter fun x => rep (fun i => (chA T D ks i + 1) % T) x == x) (by
    rw [List.Nodup, List.pairwise_map]
    have hn : ((List.range n).filter fun x => rep (fun d => S (mt d)) x == x && decide (Conn n S root x)).Nodup := List.Pairwise.filter _ List.nodup_range
    refine List.Pairwise.imp_of_mem (fun {x y} hx hy hxy e => hxy ?_) hn
    simp only [List.mem_filter, List.mem_range, Bool.and_eq_true, beq_iff_eq, decide_eq_true_eq] at hx hy
    obtain ⟨p1, p2⟩ := posD_spec (k.cov x hx.1 hx.2.2)
    obtain ⟨q1, q2⟩ := posD_spec (k.cov y hy.1 hy.2.2)
    obtain ⟨m, hm⟩ := (hQ.rep_iff p1 q1).1 e
    have h2 := hitr m _ p1
    rw [hm, p2, q2] at h2
    rw [← hx.2.1, ← hy.2.1]
    exact (hP.rep_iff hx.1 hy.1).2 ⟨m, h2.symm⟩) (fun z hz => by
    obtain ⟨x, hx, rfl⟩ := List.mem_map.1 hz
    simp only [List.mem_filter, List.mem_range, Bool.and_eq_true, beq_iff_eq, decide_eq_true_eq] at hx ⊢
    obtain ⟨p1, p2⟩ := posD_spec (k.cov x hx.1 hx.2.2)
    exact ⟨hQ.rep_lt p1, hQ.rep_rep p1⟩)
  rw [List.length_map] at h1
  exact h1

omit k in
/-- Lefts and rights ahead of a place, by places. -/
theorem cnt_places {ks : List Nat} (x : Nat) : ∀ m, m ≤ ks.length → cntK (ks.take m) x = ((List.range m).filter fun q => ks[q]? == some x).length := by
  intro m
  induction m with
  | zero => intro _; simp [cntK]
  | succ m ih =>
    intro hm
    have hg := List.getElem?_eq_getElem (l := ks) (i := m) (by omega)
    rw [cntK_get hg, ih (by omega), List.range_succ, List.filter_append, List.length_append]
    by_cases h0 : ks[m] = x <;> simp [hg, h0]

omit k in
theorem cnt_between {ks : List Nat} (x : Nat) {a m : Nat} (ham : a ≤ m) (hm : m ≤ ks.length) : cntK (ks.take m) x = cntK (ks.take a) x + ((List.range m).filter fun q => decide (a ≤ q) && (ks[q]? == some x)).length := by
  rw [cnt_places x m hm, cnt_places x a (by omega)]
  rw [filter_parts (fun q => ks[q]? == some x) (fun q => decide (q < a) && (ks[q]? == some x)) (fun q => decide (a ≤ q) && (ks[q]? == some x)) (fun q => by
    by_cases h1 : q < a
    · have : ¬ a ≤ q := by omega
      simp [h1, this]
    · have : a ≤ q := by omega
      simp [h1, this]) (fun q => by simp; omega)]
  congr 1
  obtain ⟨c, rfl⟩ : ∃ c, m = a + c := ⟨m - a, by omega⟩
  rw [List.range_add, List.filter_append, List.length_append]
  have e1 : (List.range a).filter (fun q => decide (q < a) && (ks[q]? == some x)) = (List.range a).filter (fun q => ks[q]? == some x) := List.filter_congr (fun q hq => by
    have := List.mem_range.1 hq
    simp [this])
  have e2 : ((List.range c).map (a + ·)).filter (fun q => decide (q < a) && (ks[q]? == some x)) = [] := by
    rw [List.filter_eq_nil_iff]
    intro q hq
    obtain ⟨z, _, rfl⟩ := List.mem_map.1 hq
    simp; omega
  rw [e1, e2]
  rfl

/-- Of a planar map's walk each letter's mate is the place of its dart's mate. -/
theorem WkT.matesP (he : n % 2 = 0) {V F : Nat} (hvs : V ≤ cntK ks 0 + 1) (hfs : F ≤ ldr (fun i => (chA T D ks i + 1) % T) T) (hpl : T / 2 + 1 ≤ V + F) {i : Nat} (hi : i < T) : D (mp ks i) = mt (D i) := by
  have hw := k.wd
  have hil : i < ks.length := by rw [k.len]; exact hi
  by_cases h2 : ks.getD i 0 < 2
  · exact k.mate01 hi h2
  have hcd := k.chd he
  have hoh := hw.opens_half
  have hlen := k.len
  have hcount : ((List.range T).filter fun i => decide (i < chA T D ks i)).length = cntK ks 2 := by
    have h3 := cnt_places 2 (ks := ks) ks.length (Nat.le_refl _)
    rw [List.take_of_length_le (Nat.le_refl _)] at h3
    rw [h3, hlen]
    congr 1
    refine List.filter_congr (fun q hq => ?_)
    have hq := List.mem_range.1 hq
    have hg := List.getElem?_eq_getElem (l := ks) (i := q) (by omega)
    have h4 := k.right.k4 _ (List.mem_of_getElem? hg)
    by_cases h5 : ks[q]'(by omega) = 2
    · rw [h5] at hg
      have := ((k.chA_spec he hq).1 hg).1
      simp [hg, this]
    · by_cases h6 : ks[q]'(by omega) = 3
      · have hg3 := hg
        rw [h6] at hg3
        have h7 := ((k.chA_spec he hq).2 hg3).1
        have : ¬ q < chA T D ks q := by omega
        simp [hg3, this]
      · have h7 : chA T D ks q = q := by
          unfold chA
          rw [getD_of hg, if_pos (by omega)]
        simp [hg, h5, h7]
  have hF : ((List.range T).filter fun i => decide (i < chA T D ks i)).length ≤ ldr (fun i => (chA T D ks i + 1) % T) T := by
    rw [hcount]
    omega
  have key : ∀ i, i < T → ks[i]? = some 2 → mp ks i = chA T D ks i := by
    intro i hi h2
    obtain ⟨h4, h5, h6, h7⟩ := (k.chA_spec he hi).1 h2
    have hB1 := BB_succ h2
    have nest3 : ∀ q, i < q → q < chA T D ks i → ks[q]? = some 3 → i < chA T D ks q ∧ chA T D ks q < q ∧ ks[chA T D ks q]? = some 2 := by
      intro q h8 h9 h10
      obtain ⟨g1, g2, g3⟩ := (k.chA_spec he (show q < T by omega)).2 h10
      have hne : chA T D ks q ≠ i := fun e => by
        have := hcd.inv q (by omega)
        rw [e] at this; omega
      refine ⟨?_, g1, g3⟩
      rcases Nat.lt_or_ge i (chA T D ks q) with g4 | g4
      · exact g4
      · exfalso
        have hinv := hcd.inv q (by omega)
        exact no_cross hcd hF (a := chA T D ks q) (b := i) hi (by omega) (by rw [hinv]; exact h8) (by rw [hinv]; exact h9)
    have nest2 : ∀ q, i < q → q < chA T D ks i → ks[q]? = some 2 → q < chA T D ks q ∧ chA T D ks q < chA T D ks i ∧ ks[chA T D ks q]? = some 3 := by
      intro q h8 h9 h10
      obtain ⟨g1, g2, g3, g4⟩ := (k.chA_spec he (show q < T by omega)).1 h10
      have hne : chA T D ks q ≠ chA T D ks i := fun e => by
        have a1 := hcd.inv q (by omega)
        have a2 := hcd.inv i hi
        rw [e, a2] at a1; omega
      refine ⟨g1, ?_, g4⟩
      rcases Nat.lt_or_ge (chA T D ks q) (chA T D ks i) with g5 | g5
      · exact g5
      · exfalso
        exact no_cross hcd hF (a := i) (b := q) (by omega) h8 h9 (by omega)
    have hinj : ∀ a b, a < T → b < T → chA T D ks a = chA T D ks b → a = b := fun a b ha hb e => by
      rw [← hcd.inv a ha, e, hcd.inv b hb]
    have habove : ∀ p, i < p → p ≤ chA T D ks i → BB ks i < BB ks p := by
      intro p hp1 hp2
      have c3 := cnt_between (ks := ks) 3 (a := i + 1) (m := p) (by omega) (by omega)
      have c2 := cnt_between (ks := ks) 2 (a := i + 1) (m := p) (by omega) (by omega)
      have hle := nodup_sub (((List.range p).filter fun q => decide (i + 1 ≤ q) && (ks[q]? == some 3)).map (chA T D ks)) ((List.range p).filter fun q => decide (i + 1 ≤ q) && (ks[q]? == some 2)) (by
        rw [List.Nodup, List.pairwise_map]
        refine List.Pairwise.imp_of_mem (fun {x y} hx hy hxy e => hxy ?_) ((List.Pairwise.filter _ List.nodup_range : ((List.range p).filter fun q => decide (i + 1 ≤ q) && (ks[q]? == some 3)).Nodup))
        simp only [List.mem_filter, List.mem_range] at hx hy
        exact hinj x y (by omega) (by omega) e) (fun z hz => by
        obtain ⟨x, hx, rfl⟩ := List.mem_map.1 hz
        simp only [List.mem_filter, List.mem_range, Bool.and_eq_true, decide_eq_true_eq, beq_iff_eq] at hx ⊢
        obtain ⟨g1, g2, g3⟩ := nest3 x (by omega) (by omega) hx.2.2
        exact ⟨by omega, by omega, g3⟩)
      rw [List.length_map] at hle
      have e1 : bb 2 = 1 := rfl
      rw [e1] at hB1
      have b1 : BB ks p = (cntK (ks.take p) 2 : Int) - cntK (ks.take p) 3 := rfl
      have b2 : BB ks (i + 1) = (cntK (ks.take (i + 1)) 2 : Int) - cntK (ks.take (i + 1)) 3 := rfl
      omega
    have hhit : BB ks (chA T D ks i + 1) = BB ks i := by
      have c3 := cnt_between (ks := ks) 3 (a := i + 1) (m := chA T D ks i) (by omega) (by omega)
      have c2 := cnt_between (ks := ks) 2 (a := i + 1) (m := chA T D ks i) (by omega) (by omega)
      have hle := nodup_sub (((List.range (chA T D ks i)).filter fun q => decide (i + 1 ≤ q) && (ks[q]? == some 2)).map (chA T D ks)) ((List.range (chA T D ks i)).filter fun q => decide (i + 1 ≤ q) && (ks[q]? == some 3)) (by
        rw [List.Nodup, List.pairwise_map]
        refine List.Pairwise.imp_of_mem (fun {x y} hx hy hxy e => hxy ?_) ((List.Pairwise.filter _ List.nodup_range : ((List.range (chA T D ks i)).filter fun q => decide (i + 1 ≤ q) && (ks[q]? == some 2)).Nodup))
        simp only [List.mem_filter, List.mem_range] at hx hy
        exact hinj x y (by omega) (by omega) e) (fun z hz => by
        obtain ⟨x, hx, rfl⟩ := List.mem_map.1 hz
        simp only [List.mem_filter, List.mem_range, Bool.and_eq_true, decide_eq_true_eq, beq_iff_eq] at hx ⊢
        obtain ⟨g1, g2, g3⟩ := nest2 x (by omega) (by omega) hx.2.2
        exact ⟨by omega, by omega, g3⟩)
      rw [List.length_map] at hle
      have hB3 := BB_succ h7
      have hab := habove (chA T D ks i) h4 (Nat.le_refl _)
      have e1 : bb 2 = 1 := rfl
      have e3 : bb 3 = -1 := rfl
      rw [e1] at hB1
      rw [e3] at hB3
      have b1 : BB ks (chA T D ks i) = (cntK (ks.take (chA T D ks i)) 2 : Int) - cntK (ks.take (chA T D ks i)) 3 := rfl
      have b2 : BB ks (i + 1) = (cntK (ks.take (i + 1)) 2 : Int) - cntK (ks.take (i + 1)) 3 := rfl
      omega
    refine hw.mp_pair (s := 1) ⟨h4, by omega, h2, h7, ?_, fun p hp1 hp2 => ?_⟩
    · rw [ex_BB (by omega), ex_BB (by omega)]; exact hhit
    · rw [ex_BB (by omega), ex_BB (by omega)]; exact habove p hp1 hp2
  have hg := List.getElem?_eq_getElem (l := ks) (i := i) hil
  have h4 := k.right.k4 _ (List.mem_of_getElem? hg)
  rw [getD_of hg] at h2
  have h23 : ks[i] = 2 ∨ ks[i] = 3 := by omega
  rcases h23 with e | e
  · rw [e] at hg
    rw [key i hi hg]
    exact ((k.chA_spec he hi).1 hg).2.2.1
  · rw [e] at hg
    obtain ⟨g1, g2, g3⟩ := (k.chA_spec he hi).2 hg
    have h5 := key _ (by omega) g3
    rw [hcd.inv i hi] at h5
    have h6 := hw.mp_mp (i := chA T D ks i) (by omega)
    rw [h5] at h6
    rw [h6]
    exact g2

omit k in
open Classical in
theorem ldr_conn {n : Nat} {S P : Nat → Nat} {root : Nat} (hc : ∀ x, x < n → Conn n S root x) : ((List.range n).filter fun x => rep P x == x && decide (Conn n S root x)).length = ldr P n := by
  unfold ldr
  congr 1
  refine List.filter_congr (fun x hx => ?_)
  rw [decide_eq_true (hc x (List.mem_range.1 hx)), Bool.and_true]

theorem WkT.mates (h : IsP n S) (hr : root < n) (he : n % 2 = 0) (hc : ∀ x, x < n → Conn n S root x) (hT : T = n) (hpl : n / 2 + 1 ≤ ldr S n + ldr (fun d => S (mt d)) n) {i : Nat} (hi : i < T) : D (mp ks i) = mt (D i) := by
  have h1 := k.verts h hr he
  have h2 := k.faces h he
  rw [ldr_conn hc] at h1 h2
  exact k.matesP he h1 h2 (by omega) hi

/-- How many chords there are. -/
theorem WkT.chords (he : n % 2 = 0) : ((List.range T).filter fun i => decide (i < chA T D ks i)).length = cntK ks 2 := by
  have h3 := cnt_places 2 (ks := ks) ks.length (Nat.le_refl _)
  rw [List.take_of_length_le (Nat.le_refl _)] at h3
  rw [h3, k.len]
  congr 1
  refine List.filter_congr (fun q hq => ?_)
  have hq := List.mem_range.1 hq
  have hg := List.getElem?_eq_getElem (l := ks) (i := q) (by rw [k.len]; exact hq)
  have h4 := k.right.k4 _ (List.mem_of_getElem? hg)
  by_cases h5 : ks[q]'(by rw [k.len]; exact hq) = 2
  · rw [h5] at hg
    have := ((k.chA_spec he hq).1 hg).1
    simp [hg, this]
  · by_cases h6 : ks[q]'(by rw [k.len]; exact hq) = 3
    · have hg3 := hg
      rw [h6] at hg3
      have h7 := ((k.chA_spec he hq).2 hg3).1
      have : ¬ q < chA T D ks q := by omega
      simp [hg3, this]
    · have h7 : chA T D ks q = q := by
        unfold chA
        rw [getD_of hg, if_pos (by omega)]
      simp [hg, h5, h7]

omit k in
/-- As many orbits as chords and one more, at most. -/
theorem chd_le {n : Nat} {al : Nat → Nat} (h : Chd n al) (hn : 0 < n) : ldr (fun i => (al i + 1) % n) n ≤ ((List.range n).filter fun i => decide (i < al i)).length + 1 := by
  have hm := chd_more h hn n n n (Nat.le_refl _)
  have e1 : ∀ x, x < n → (chP al (fun y => decide (y < n) || (y == n || y == n)) x + 1) % n = (al x + 1) % n := by
    intro x hx
    unfold chP
    have : min x (al x) < n := by omega
    simp [this]
  have hP := chP_isP h hn (fun y => decide (y < n) || (y == n || y == n))
  have hF0 : IsP n (fun i => (al i + 1) % n) := hP.congr (fun d hd => (e1 d hd).symm)
  rw [ldr_congr hP hF0 e1 n (Nat.le_refl _)] at hm
  have e2 : ∀ x, x < n → (chP al (fun y => y == n || y == n) x + 1) % n = (x + 1) % n := by
    intro x hx
    unfold chP
    have h1 : min x (al x) ≠ n := by omega
    have h2 : (min x (al x) == n) = false := by rw [beq_eq_false_iff_ne]; exact h1
    simp [h2]
  rw [ldr_congr (chP_isP h hn _) (succ_isP hn) e2 n (Nat.le_refl _)] at hm
  have c1 := ldr_succ_mod hn
  have c2 : lowC al n n n ≤ ((List.range n).filter fun i => decide (i < al i)).length := by
    have := filter_parts (fun i => decide (i < al i)) (fun i => decide (i < al i) && !(i == n || i == n)) (fun i => decide (i < al i) && (i == n || i == n)) (fun x => by cases decide (x < al x) <;> cases (x == n || x == n) <;> rfl) (fun x => by cases decide (x < al x) <;> cases (x == n || x == n) <;> simp) (List.range n)
    unfold lowC
    omega
  omega

open Classical in
/-- EULER'S LAW: vertices and faces of a part are at most as many as its edges and two. -/
theorem WkT.euler_le (h : IsP n S) (hr : root < n) (he : n % 2 = 0) : ((List.range n).filter fun x => rep S x == x && decide (Conn n S root x)).length + ((List.range n).filter fun x => rep (fun d => S (mt d)) x == x && decide (Conn n S root x)).length ≤ T / 2 + 2 := by
  have h1 := k.verts h hr he
  have h2 := k.faces h he
  have h3 := chd_le (k.chd he) k.pos
  rw [k.chords he] at h3
  have h4 := k.wd.opens_half
  have h5 := k.len
  omega
end

end Go.Proofs.YtblkkcpeodoclaaGreatDoor
