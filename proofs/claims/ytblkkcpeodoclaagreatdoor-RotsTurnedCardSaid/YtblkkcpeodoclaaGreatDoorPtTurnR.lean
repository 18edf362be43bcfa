/- Plain: a map's lines in another order, each from another dart on. -/
import Derived.Test.YtblkkcpeodoclaaGreatDoorPtCountR
import Derived.Test.YtblkkcpeodoclaaGreatDoorPtRefP07
namespace Go.Proofs.YtblkkcpeodoclaaGreatDoor

/-- From the second dart on. -/
def rotL : List Nat → List Nat
  | [] => []
  | a :: r => r ++ [a]

theorem rot_perm : ∀ l, (rotL l).Perm l
  | [] => List.Perm.refl _
  | a :: r => List.perm_append_singleton a r

theorem rot_len (l : List Nat) : (rotL l).length = l.length := (rot_perm l).length_eq

theorem rot_get {l : List Nat} {i : Nat} (hi : i < l.length) : (rotL l).getD i 0 = l.getD ((i + 1) % l.length) 0 := by
  cases l with
  | nil => simp at hi
  | cons a r =>
    simp only [List.length_cons] at hi ⊢
    show (r ++ [a]).getD i 0 = _
    rw [List.getD_eq_getElem?_getD, List.getD_eq_getElem?_getD]
    by_cases h : i < r.length
    · rw [List.getElem?_append_left h, Nat.mod_eq_of_lt (by omega), List.getElem?_cons_succ]
    · have : i = r.length := by omega
      subst this
      rw [List.getElem?_append_right (Nat.le_refl _), Nat.sub_self, Nat.mod_self]
      rfl

theorem rot_links {S : Nat → Nat} {l : List Nat} (h : ∀ p ∈ linkV l, S p.1 = p.2) : ∀ p ∈ linkV (rotL l), S p.1 = p.2 := by
  intro p hp
  unfold linkV at hp
  obtain ⟨i, hi, rfl⟩ := List.mem_map.1 hp
  rw [List.mem_range, rot_len] at hi
  have hm : (i + 1) % l.length < l.length := Nat.mod_lt _ (by omega)
  simp only
  rw [rot_len, rot_get hi, rot_get hm]
  have := h (l.getD ((i + 1) % l.length) 0, l.getD (((i + 1) % l.length + 1) % l.length) 0) (by
    unfold linkV
    exact List.mem_map.2 ⟨(i + 1) % l.length, List.mem_range.2 hm, rfl⟩)
  exact this

/-- Two places exchanged. -/
def swpM {α : Type} (M : List α) (i k : Nat) (a b : α) : List α := (M.set i b).set k a

theorem swp_len {α : Type} (M : List α) (i k : Nat) (a b : α) : (swpM M i k a b).length = M.length := by simp [swpM]

theorem swp_perm {M : List (List Nat)} {i k : Nat} {a b : List Nat} (hi : M[i]? = some a) (hk : M[k]? = some b) : (swpM M i k a b).Perm M := by
  obtain ⟨hil, hie⟩ := List.getElem?_eq_some_iff.1 hi
  obtain ⟨hkl, hke⟩ := List.getElem?_eq_some_iff.1 hk
  rw [List.perm_iff_count]
  intro x
  unfold swpM
  have hk2 : (M.set i b)[k]'(by simpa using hkl) = b := by
    by_cases e : i = k
    · subst e; simp
    · rw [List.getElem_set_ne e, hke]
  rw [List.count_set (by simpa using hkl), List.count_set hil, hk2, hie]
  by_cases h : a == x
  · have h2 : 1 ≤ M.count x := by
      rw [beq_iff_eq] at h
      subst h
      exact List.count_pos_iff.2 (List.mem_of_getElem? hi)
    rw [if_pos h]
    split <;> omega
  · rw [if_neg h]
    split <;> omega

/-- So many lines are told. -/
structure ConsI (s : List Nat) (M C : List (List Nat)) (i : Nat) : Prop where
  perm : M.Perm (linesOf s)
  len : C.length = i
  le : i ≤ M.length
  cons : C.flatten.Perm (M.take i).flatten
  good : ∀ r ∈ C, r ≠ [] ∧ ∀ p ∈ linkV r, sg s p.1 = p.2

theorem ConsI.start (s : List Nat) : ConsI s (linesOf s) [] 0 := ⟨List.Perm.refl _, rfl, Nat.zero_le _, by simp, fun r h => by simp at h⟩

theorem ConsI.swap {s : List Nat} {M C : List (List Nat)} {i k : Nat} {a b : List Nat} (h : ConsI s M C i) (hi : M[i]? = some a) (hk : M[k]? = some b) (hik : i ≤ k) : ConsI s (swpM M i k a b) C i := by
  refine ⟨(swp_perm hi hk).trans h.perm, h.len, by rw [swp_len]; exact h.le, ?_, h.good⟩
  have : (swpM M i k a b).take i = M.take i := by
    unfold swpM
    rw [List.take_set_of_le hik, List.take_set_of_le (Nat.le_refl i)]
  rw [this]
  exact h.cons

theorem ConsI.push {s : List Nat} {M C : List (List Nat)} {i : Nat} {l r : List Nat} (hP : IsP s.length (sg s)) (h : ConsI s M C i) (hl : M[i]? = some l) (hr : r = l ∨ r = rotL l) : ConsI s M (C ++ [r]) (i + 1) := by
  have hil := (List.getElem?_eq_some_iff.1 hl).1
  have hm : l ∈ linesOf s := h.perm.mem_iff.1 (List.mem_of_getElem? hl)
  obtain ⟨_, h2, h3⟩ := lines_turn hP
  have hll : ∀ p ∈ linkV l, sg s p.1 = p.2 := fun p hp => h2 p (by unfold linksL; exact List.mem_flatMap.2 ⟨l, hm, hp⟩)
  refine ⟨h.perm, by simp [h.len], hil, ?_, fun q hq => ?_⟩
  · rw [List.flatten_append, List.take_add_one, hl, List.flatten_append]
    refine h.cons.append ?_
    rcases hr with rfl | rfl
    · simp
    · simpa using rot_perm l
  · rcases List.mem_append.1 hq with hq | hq
    · exact h.good q hq
    · rw [List.mem_singleton] at hq
      subst hq
      rcases hr with rfl | rfl
      · exact ⟨h3 _ hm, hll⟩
      · refine ⟨fun e => ?_, rot_links hll⟩
        have := rot_len l
        rw [e] at this
        exact h3 _ hm (List.eq_nil_of_length_eq_zero this.symm)

theorem ConsI.done {s : List Nat} {rt : Int} {M C : List (List Nat)} (hP : IsP s.length (sg s)) (he : s.length % 2 = 0) (hl : s.length ≤ 131072) (hrt : (s.length = 0 ∧ rt = -1) ∨ ∃ r : Nat, rt = r ∧ r < s.length)
    (h : ConsI s M C M.length) (htl : (linesB (s.length / 2) rt 0 C).length ≤ 1048576) : GoodK (linesB (s.length / 2) rt 0 C) s rt 0 (C.length + 1) := by
  obtain ⟨h1, _, _⟩ := lines_turn hP
  have hfl : C.flatten.Perm (linesOf s).flatten := by
    have := h.cons
    rw [List.take_length] at this
    exact this.trans h.perm.flatten
  have hT : TurnOk C s.length := by
    refine ⟨?_, ?_, fun p hp => ?_⟩
    · rw [← List.length_map (f := Prod.fst), links_fst, hfl.length_eq, ← links_fst, List.length_map]
      exact h1.1
    · rw [links_fst, hfl.nodup_iff, ← links_fst]
      exact h1.2.1
    · have : p.1 ∈ C.flatten := by rw [← links_fst]; exact List.mem_map.2 ⟨p, hp, rfl⟩
      rw [hfl.mem_iff, ← links_fst] at this
      obtain ⟨q, hq, e⟩ := List.mem_map.1 this
      rw [← e]
      exact h1.2.2 q hq
  exact good_lines hP he hl (Nat.zero_le _) hrt (fun l hl => (h.good l hl).1) hT (fun p hp => by
    unfold linksL at hp
    obtain ⟨l, hl, hpl⟩ := List.mem_flatMap.1 hp
    exact (h.good l hl).2 p hpl) htl

/-- A line's text. -/
def rowT (l : List Nat) : List UInt8 := joinB 32 ((nats l).map Lib.itoa)

/-- What is turned: behind the first blank, a blank, ahead of it. -/
theorem rot_text {a : Nat} {r : List Nat} (hr : r ≠ []) : rowT (a :: r) = Lib.itoa (a : Int) ++ 32 :: rowT r ∧ rowT (rotL (a :: r)) = rowT r ++ 32 :: Lib.itoa (a : Int) ∧ (32 : UInt8) ∉ Lib.itoa (a : Int) := by
  refine ⟨?_, ?_, itoa_no (.inl rfl) _⟩
  · cases r with
    | nil => exact absurd rfl hr
    | cons b r => rfl
  · show joinB 32 ((nats (r ++ [a])).map Lib.itoa) = _
    rw [nats_snoc, List.map_append]
    show joinB 32 ((nats r).map Lib.itoa ++ [Lib.itoa (a : Int)]) = _
    rw [joinB_snoc 32 _ (by unfold nats; simpa using hr)]
    rfl

theorem one_text (a : Nat) : rowT [a] = Lib.itoa (a : Int) ∧ rotL [a] = [a] ∧ (32 : UInt8) ∉ rowT [a] := ⟨rfl, rfl, itoa_no (.inl rfl) (a : Int)⟩

theorem cut_snoc {c b : UInt8} : ∀ {l : List UInt8} {xs : List (List UInt8)} {y : List UInt8}, cutB c l = xs ++ [y] → cutB c (l ++ [b]) = if b = c then xs ++ [y] ++ [[]] else xs ++ [y ++ [b]]
  | [], xs, y, h => by
    have h1 : xs.length = 0 := by have := congrArg List.length h; rw [List.length_append] at this; simpa [cutB] using this.symm
    obtain rfl := List.eq_nil_of_length_eq_zero h1
    simp [cutB] at h
    subst h
    show cutB c [b] = _
    unfold cutB
    split
    · rfl
    · rfl
  | a :: l, xs, y, h => by
    obtain ⟨xs', y', hl⟩ : ∃ xs' y', cutB c l = xs' ++ [y'] := ⟨_, _, (List.dropLast_concat_getLast (cutB_ne c l)).symm⟩
    have ih := cut_snoc (b := b) hl
    rw [List.cons_append]
    rw [cutB] at h ⊢
    by_cases hac : a = c
    · rw [if_pos hac] at h ⊢
      rw [hl] at h
      have e : ([] :: (xs' ++ [y'])) = ([] :: xs') ++ [y'] := rfl
      rw [e] at h
      have e1 := List.append_inj_left' h rfl
      have e2 := List.append_inj_right' h rfl
      simp only [List.cons.injEq, and_true] at e2
      subst e1 e2
      rw [ih]
      split <;> rfl
    · rw [if_neg hac] at h ⊢
      rw [hl] at h
      rw [ih]
      cases xs' with
      | nil =>
        simp only [List.nil_append] at h ⊢
        have h1 : xs.length = 0 := by have := congrArg List.length h; rw [List.length_append] at this; simpa using this.symm
        obtain rfl := List.eq_nil_of_length_eq_zero h1
        simp only [List.nil_append, List.cons.injEq, and_true] at h
        subst h
        by_cases hbc : b = c
        · rw [if_pos hbc, if_pos hbc]; rfl
        · rw [if_neg hbc, if_neg hbc]; rfl
      | cons z zs =>
        simp only [List.cons_append] at h ⊢
        have e : ((a :: z) :: (zs ++ [y'])) = ((a :: z) :: zs) ++ [y'] := rfl
        rw [e] at h
        have e1 := List.append_inj_left' h rfl
        have e2 := List.append_inj_right' h rfl
        simp only [List.cons.injEq, and_true] at e2
        subst e1 e2
        by_cases hbc : b = c
        · rw [if_pos hbc, if_pos hbc]; rfl
        · rw [if_neg hbc, if_neg hbc]; rfl

theorem cut_tail {c : UInt8} : ∀ {l : List UInt8} {xs : List (List UInt8)} {y : List UInt8}, cutB c l = xs ++ [y] → ∃ pre, l = pre ++ y
  | l, xs, y, h => by
    have := joinB_cut c l
    rw [h] at this
    cases xs with
    | nil => exact ⟨[], by rw [← this]; rfl⟩
    | cons x xs =>
      have key : ∀ (zs : List (List UInt8)), zs ≠ [] → ∃ pre, joinB c (zs ++ [y]) = pre ++ y := by
        intro zs hz
        exact ⟨joinB c zs ++ [c], by rw [joinB_snoc c y hz]; simp⟩
      obtain ⟨pre, hp⟩ := key (x :: xs) (by simp)
      exact ⟨pre, by rw [← this, hp]⟩

end Go.Proofs.YtblkkcpeodoclaaGreatDoor
